/- Texts Uj, Uo, Uq, Us, Law, Ra, Ug, Uv. -/
import Derived.ProofKit
import Derived.HandedShaped
import Derived.OpenShut
import Derived.Test.YtdlgoofjechocaaZ13
set_option maxHeartbeats 32000000
set_option maxRecDepth 100000
set_option linter.unusedSimpArgs false
set_option linter.unusedVariables false
namespace Go.Proofs.Ytdlgoofjechocaa
open Go.RowKit Go.Sort
theorem z5L (ev:List Int) (x:Int) (hl:ev.length≤1000000):zq Try.prog 31 [.p (.seq 1 (rowZ ev)),.int x] (.bool (ev.contains x)):=by
 have hel:=z1A ev
 refine zq.of Try.func31 rfl 18 rfl (by decide) (by simp [AV.okB]) ?_
 repeat' (first|refine T.zh fun K hK=>?_|refine T.block ?_|(refine T.reg (by kernel_rfl) fun K' hK'=>?_;simp only [bz];(repeat' (first|(with_reducible refine WL.fin ?_;refine hK' _ ?_;clear hK' K')|((with_reducible refine WL.step fun K2 hK2=>?_);simp only [simprocAttr,implies_true,amz,tys,hel];(repeat' with_reducible (first|(refine hK2 _ ?_;clear hK2 K2)|refine And.intro ?_ ?_|intro hb))))))|refine T.skip ?_|refine T.exit ?_|refine T.zf rfl ?_|refine T.ze rfl ?_|refine T.cond rfl (fun hc=>?_) (fun hc=>?_)|refine T.ret ?_|simp only [za,z8,reduceIte,Nat.reduceEqDiff]|((repeat ((fail_if_success (refine hK _ ?_));clear hK K));refine hK _ ?_;clear hK K))
 refine T.qc (fun k:Nat=>⟨[(0,.p (.seq 1 (rowZ ev))),(1,.int x),(5,.int k)],[],18,0⟩) (fun k=>k≤ev.length∧ev.contains x=(ev.drop k).contains x) (fun k=>ev.length-k) 0 ⟨Nat.zero_le _,rfl⟩ (by refine zk.of' rfl ?_;simp only [wks,reduceIte,Nat.reduceEqDiff,ASt.okB,AV.okB,Nat.reduceLT,implies_true,Int.natCast_zero]) ?_
 rintro k ⟨hk,hix⟩ KL hKL
 by_cases hkn:k<ev.length
 ·have hd:decide ((k:Int)<(ev.length:Int))=true:=by simpa using hkn
  have hk0:(0:Int)≤(k:Int):=by omega
  obtain ⟨y,hy⟩:=zT hkn
  have m1:=qN hy
  have hsym:(x==y)=(y==x):=by rw [Bool.eq_iff_iff,beq_iff_eq,beq_iff_eq];exact ⟨Eq.symm,Eq.symm⟩
  rw [drop_at hy,List.contains_cons,hsym] at hix
  cases hc:(y==x) with
  | true =>
   rw [hc,Bool.true_or] at hix
   rw [hix]
   repeat' (first|refine T.zh fun K hK=>?_|refine T.block ?_|(refine T.reg (by kernel_rfl) fun K' hK'=>?_;simp only [bz];(repeat' (first|(with_reducible refine WL.fin ?_;refine hK' _ ?_;clear hK' K')|((with_reducible refine WL.step fun K2 hK2=>?_);simp only [simprocAttr,implies_true,amz,tys,hd,hel,hk0,Int.toNat_natCast,m1,hc];(repeat' with_reducible (first|(refine hK2 _ ?_;clear hK2 K2)|refine And.intro ?_ ?_|intro hb))))))|refine T.skip ?_|refine T.exit ?_|refine T.zf rfl ?_|refine T.ze rfl ?_|refine T.cond rfl (fun hc=>?_) (fun hc=>?_)|refine T.ret ?_|simp only [za,z8,reduceIte,Nat.reduceEqDiff]|((repeat ((fail_if_success (refine hK _ ?_));clear hK K));refine hK _ ?_;clear hK K))
   all_goals (refine zy.ret (.inr rfl) Try.results31 ?_;simp only [zu,zo,zn,simprocAttr,implies_true,amz,tys,])
  | false =>
   rw [hc,Bool.false_or] at hix
   repeat' (first|refine T.zh fun K hK=>?_|refine T.block ?_|(refine T.reg (by kernel_rfl) fun K' hK'=>?_;simp only [bz];(repeat' (first|(with_reducible refine WL.fin ?_;refine hK' _ ?_;clear hK' K')|((with_reducible refine WL.step fun K2 hK2=>?_);simp only [simprocAttr,implies_true,amz,tys,hd,hel,hk0,Int.toNat_natCast,m1,hc];(repeat' with_reducible (first|(refine hK2 _ ?_;clear hK2 K2)|refine And.intro ?_ ?_|intro hb))))))|refine T.skip ?_|refine T.exit ?_|refine T.zf rfl ?_|refine T.ze rfl ?_|refine T.cond rfl (fun hc=>?_) (fun hc=>?_)|refine T.ret ?_|simp only [za,z8,reduceIte,Nat.reduceEqDiff]|((repeat ((fail_if_success (refine hK _ ?_));clear hK K));refine hK _ ?_;clear hK K))
   refine hKL _ (k+1) ?_ ⟨hkn,hix⟩ (by omega)
   refine zk.of' rfl ?_;simp only [wks,reduceIte,Nat.reduceEqDiff,ASt.okB,AV.okB,Nat.reduceLT,implies_true,zm (show k<1152921504606846976 by omega)]
 ·have hd:decide ((k:Int)<(ev.length:Int))=false:=by simpa using hkn
  rw [List.drop_eq_nil_of_le (by omega),List.contains_nil] at hix
  repeat' (first|refine T.zh fun K hK=>?_|refine T.block ?_|(refine T.reg (by kernel_rfl) fun K' hK'=>?_;simp only [bz];(repeat' (first|(with_reducible refine WL.fin ?_;refine hK' _ ?_;clear hK' K')|((with_reducible refine WL.step fun K2 hK2=>?_);simp only [simprocAttr,implies_true,amz,tys,hd,hel];(repeat' with_reducible (first|(refine hK2 _ ?_;clear hK2 K2)|refine And.intro ?_ ?_|intro hb))))))|refine T.skip ?_|refine T.exit ?_|refine T.zf rfl ?_|refine T.ze rfl ?_|refine T.cond rfl (fun hc=>?_) (fun hc=>?_)|refine T.ret ?_|simp only [za,z8,reduceIte,Nat.reduceEqDiff]|((repeat ((fail_if_success (refine hK _ ?_));clear hK K));refine hK _ ?_;clear hK K))
  all_goals (refine zy.ret (.inr rfl) Try.results31 ?_;simp only [zu,zo,zn,simprocAttr,implies_true,amz,tys,hix])
theorem z4z (l:List Ev) (i j:Int) (hl:l.length≤100000):zq Try.prog 22 [.p (.seq 9 (l.map evC)),.int i,.int j] (.bool (plcB l i j)):=by
 have hv:=z1u l (by omega)
 have hlm:(l.map evC).length=l.length:=by simp
 unfold plcB
 generalize (qx l).2=b at hv
 cases d1:decide (i<0) <;> cases d2:decide (j≤i) <;> cases d3:decide ((l.length:Int)≤j)
 all_goals (have e1:decide ((0:Int)≤i) = !decide (i<0):=(by rw [Bool.eq_iff_iff];simp);have e2:decide (i<j) = !decide (j≤i):=(by rw [Bool.eq_iff_iff];simp);have e3:decide (j<(l.length:Int)) = !decide ((l.length:Int)≤j):=(by rw [Bool.eq_iff_iff];simp);rw [d1] at e1;rw [d2] at e2;rw [d3] at e3;simp only [Bool.not_true,Bool.not_false,Bool.and_true,Bool.and_false] at e1 e2 e3 ⊢)
 all_goals (refine zq.of Try.func22 rfl 24 rfl (by decide) (by simp [AV.okB]) ?_)
 all_goals (repeat' (first|refine T.zh fun K hK=>?_|refine T.block ?_|(refine T.reg (by kernel_rfl) fun K' hK'=>?_;simp only [bz];(repeat' (first|(with_reducible refine WL.fin ?_;refine hK' _ ?_;clear hK' K')|((with_reducible refine WL.step fun K2 hK2=>?_);simp only [simprocAttr,implies_true,amz,tys,hlm,e1,e2,e3];(repeat' (first|with_reducible (first|(refine hK2 _ ?_;clear hK2 K2)|refine And.intro ?_ ?_|intro hb)|((first|(with_reducible apply zg)|(with_reducible apply zl));case h=>exact CallV.plain (Ent.of Try.func13 (by kernel_rfl) rfl) (hv) (by simp [AV.okB]))))))))|refine T.skip ?_|refine T.exit ?_|refine T.zf rfl ?_|refine T.ze rfl ?_|refine T.cond rfl (fun hc=>?_) (fun hc=>?_)|refine T.ret ?_|simp only [za,z8,reduceIte,Nat.reduceEqDiff]|((repeat ((fail_if_success (refine hK _ ?_));clear hK K));refine hK _ ?_;clear hK K)))
 all_goals (refine zy.ret (.inr rfl) Try.results22 ?_;simp only [zu,zo,zn,simprocAttr,implies_true,amz,tys,])
theorem z5c {l:List Ev} (hl:l.length≤100000) {a b:Nat} (hab:a<b) (hb:b<l.length):zq Try.prog 30 [.p (.seq 9 (l.map evC)),.int a,.int b] (.bool (qi l a b)):=by
 obtain ⟨x,hx⟩:=zT (show a<l.length by omega)
 obtain ⟨y,hy⟩:=zT hb
 have h:=z6K l a b x y hx hy hab (by omega)
 have e:qi l a b=immB l x y a b:=by unfold qi;rw [hx,hy]
 rw [e];exact h
theorem z6u {l:List Ev} (hl:l.length≤100000) {a b:Int} (h0 : 0≤a) (hab:a<b) (hb:b<(l.length:Int)):zq Try.prog 30 [.p (.seq 9 (l.map evC)),.int a,.int b] (.bool (qi l a.toNat b.toNat)):=by
 have h:=z5c hl (show a.toNat<b.toNat by omega) (show b.toNat<l.length by omega)
 rw [show ((a.toNat:Nat):Int)=a by omega,show ((b.toNat:Nat):Int)=b by omega] at h
 exact h
theorem z7X (l:List Ev) (i j:Int) (o:Bool) (ev:List Int) (hl:l.length≤100000) (hel:ev.length≤100000):zq Try.prog 17 [.p (.seq 9 (l.map evC)),.int i,.int j,rsnA o ev] (.bool (chkB l i j o ev)):=by
 have hn:=z4z l i j hl
 have hlm:(l.map evC).length=l.length:=by simp
 have hzl:=z1A ev
 refine zq.of Try.func17 rfl 144 rfl (by decide) (by simp [AV.okB,rsnA]) ?_
 simp only [rsnA]
 cases hp:plcB l i j with
 | false =>
  rw [hp] at hn
  have hB:chkB l i j o ev=false:=zV fun h=>by have:=z01.2 h.plc;rw [hp] at this;cases this
  repeat' (first|refine T.zh fun K hK=>?_|refine T.block ?_|(refine T.reg (by kernel_rfl) fun K' hK'=>?_;simp only [bz];(repeat' (first|(with_reducible refine WL.fin ?_;refine hK' _ ?_;clear hK' K')|((with_reducible refine WL.step fun K2 hK2=>?_);simp only [simprocAttr,implies_true,amz,tys,hlm,Bool.not_false];(repeat' (first|with_reducible (first|(refine hK2 _ ?_;clear hK2 K2)|refine And.intro ?_ ?_|intro hb)|((first|(with_reducible apply zg)|(with_reducible apply zl));case h=>exact CallV.plain (Ent.of Try.func22 (by kernel_rfl) rfl) (hn) (by simp [AV.okB]))))))))|refine T.skip ?_|refine T.exit ?_|refine T.zf rfl ?_|refine T.ze rfl ?_|refine T.cond rfl (fun hc=>?_) (fun hc=>?_)|refine T.ret ?_|simp only [za,z8,reduceIte,Nat.reduceEqDiff]|((repeat ((fail_if_success (refine hK _ ?_));clear hK K));refine hK _ ?_;clear hK K))
  all_goals (refine zy.ret (.inr rfl) Try.results17 ?_;simp only [zu,zo,zn,simprocAttr,implies_true,amz,tys,hB])
 | true =>
  have hpp:=z01.1 hp
  obtain ⟨I,rfl⟩ : ∃ I:Nat,i=I:=⟨i.toNat,by have:=hpp.2.1;omega⟩
  obtain ⟨J,rfl⟩ : ∃ J:Nat,j=J:=⟨j.toNat,by have:=hpp.2.1;have:=hpp.2.2.1;omega⟩
  have hIJ:I<J:=by have:=hpp.2.2.1;omega
  have hJl:J<l.length:=by have:=hpp.2.2.2;omega
  rw [hp] at hn
  repeat' (first|refine T.zh fun K hK=>?_|refine T.block ?_|(refine T.reg (by kernel_rfl) fun K' hK'=>?_;simp only [bz];(repeat' (first|(with_reducible refine WL.fin ?_;refine hK' _ ?_;clear hK' K')|((with_reducible refine WL.step fun K2 hK2=>?_);simp only [simprocAttr,implies_true,amz,tys,hlm,hzl,Bool.not_true];(repeat' (first|with_reducible (first|(refine hK2 _ ?_;clear hK2 K2)|refine And.intro ?_ ?_|intro hb)|((first|(with_reducible apply zg)|(with_reducible apply zl));case h=>exact CallV.plain (Ent.of Try.func22 (by kernel_rfl) rfl) (hn) (by simp [AV.okB]))))))))|refine T.skip ?_|refine T.exit ?_|refine T.zf rfl ?_|refine T.ze rfl ?_|refine T.cond rfl (fun hc=>?_) (fun hc=>?_)|refine T.ret ?_|simp only [za,z8,reduceIte,Nat.reduceEqDiff]|((repeat ((fail_if_success (refine hK _ ?_));clear hK K));refine hK _ ?_;clear hK K))
  clear hn
  refine T.qc (fun k:Nat=>⟨[(0,.p (.seq 9 (l.map evC))),(1,.int I),(2,.int J),(7,.ptr 0 0),(9,.int k)],[(0,.boxP none 26 [.bool o,.p (.seq 1 (rowZ ev))])],144,1⟩) (fun k=>k≤ev.length∧(∀ x ∈ ev.take k,0≤x∧x<(l.length:Int)) ∧ ∀ q a b,q+1<k→ev[q]? = some a→ev[q+1]? = some b→a<b) (fun k=>ev.length-k) 0 ⟨Nat.zero_le _,by simp,fun q a b hq=>by omega⟩ (by refine zk.of' rfl ?_;simp only [wks,reduceIte,Nat.reduceEqDiff,ASt.okB,AV.okB,Nat.reduceLT,implies_true,Int.natCast_zero]) ?_
  rintro k ⟨hk,hrg,hinc⟩ KL hKL
  by_cases hkn:k<ev.length
  ·have hd:decide ((k:Int)<(ev.length:Int))=true:=by simpa using hkn
   have hk0:(0:Int)≤(k:Int):=by omega
   obtain ⟨x,hx⟩:=zT hkn
   have m1:=qN hx
   have hts:=z1t hx
   have hxm:=List.mem_of_getElem? hx
   by_cases hb : 0≤x∧x<(l.length:Int)
   ·have d1:decide (x<0)=false:=by simp;omega
    have d2:decide ((l.length:Int)≤x)=false:=by simp;omega
    have hrg2 : ∀ y ∈ ev.take (k+1),0≤y∧y<(l.length:Int):=fun y hy=>by
     rw [hts,List.mem_append,List.mem_singleton] at hy
     rcases hy with hy|rfl
     ·exact hrg y hy
     ·exact hb
    by_cases hkz:k=0
    ·have hd2:decide ((0:Int)<(k:Int))=false:=by rw [hkz];rfl
     repeat' (first|refine T.zh fun K hK=>?_|refine T.block ?_|refine T.skip ?_|refine T.exit ?_|refine T.zf rfl ?_|refine T.ze rfl ?_|refine T.cond rfl (fun hc=>?_) (fun hc=>?_)|refine T.ret ?_|simp only [za,z8,reduceIte,Nat.reduceEqDiff]|((repeat ((fail_if_success (refine hK _ ?_));clear hK K));refine hK _ ?_;clear hK K))
     (refine T.reg (by kernel_rfl) fun K' hK'=>?_;simp only [bz];(repeat' (first|(with_reducible refine WL.fin ?_;refine hK' _ ?_;clear hK' K')|((with_reducible refine WL.step fun K2 hK2=>?_);simp only [simprocAttr,implies_true,amz,tys,hlm,hzl,hd];(repeat' with_reducible (first|(refine hK2 _ ?_;clear hK2 K2)|refine And.intro ?_ ?_|intro hb)))));all_goals ((try simp only [za,z8,reduceIte,Nat.reduceEqDiff]);(try ((repeat ((fail_if_success (refine hK _ ?_));clear hK K));refine hK _ ?_;clear hK K))))
     repeat' (first|refine T.zh fun K hK=>?_|refine T.block ?_|refine T.skip ?_|refine T.exit ?_|refine T.zf rfl ?_|refine T.ze rfl ?_|refine T.cond rfl (fun hc=>?_) (fun hc=>?_)|refine T.ret ?_|simp only [za,z8,reduceIte,Nat.reduceEqDiff]|((repeat ((fail_if_success (refine hK _ ?_));clear hK K));refine hK _ ?_;clear hK K))
     refine T.comm [some (0,0),some (0,0),some (0,0),some (0,0),some (0,0),some (0,0),some (0,0),some (0,0),some (0,0),some (0,0),some (0,0),some (0,0),some (0,0),some (0,0),some (0,0),some (0,0),some (0,0),some (0,0),some (0,0),some (0,0),some (0,0),some (0,0),some (0,0),some (0,0),some (0,0),some (0,0),some (0,0),some (0,0),some (0,0),some (0,0),some (0,0),some (0,0),some (0,0),some (0,0)] (by kernel_rfl) (by kernel_rfl) fun K' hK'=>?_;simp only [List.map_cons,List.map_nil,List.zip_cons_cons,List.zip_nil_left];(repeat' (first|(with_reducible refine WC.fin ?_;refine hK' _ ?_;clear hK' K')|((first|(with_reducible refine WC.z0P fun K2 hK2=>?_)|(with_reducible refine WC.stepW fun K2 hK2=>?_));simp only [simprocAttr,implies_true,amz,WCg,WCv,WOw,allP,dav,Chk,List.filter_cons,List.filter_nil,bne_self_eq_false,Nat.reduceBneDiff,Bool.false_eq_true,tys,hlm,hk0,Int.toNat_natCast,m1,d1,d2,hd2];(repeat' (first|(with_reducible refine hK2 _ _ ?_;clear hK2 K2)|with_reducible (first|(refine hK2 _ ?_;clear hK2 K2)|refine And.intro ?_ ?_|intro hb)|(with_reducible rfl)|((with_reducible show @Eq ASt _ _);rfl) )))));all_goals ((try simp only [za,z8,reduceIte,Nat.reduceEqDiff]);(try ((repeat ((fail_if_success (refine hK _ ?_));clear hK K));refine hK _ ?_;clear hK K)))
     repeat' (first|refine T.zh fun K hK=>?_|refine T.block ?_|(refine T.reg (by kernel_rfl) fun K' hK'=>?_;simp only [bz];(repeat' (first|(with_reducible refine WL.fin ?_;refine hK' _ ?_;clear hK' K')|((with_reducible refine WL.step fun K2 hK2=>?_);simp only [simprocAttr,implies_true,amz,tys];(repeat' with_reducible (first|(refine hK2 _ ?_;clear hK2 K2)|refine And.intro ?_ ?_|intro hb))))))|refine T.skip ?_|refine T.exit ?_|refine T.zf rfl ?_|refine T.ze rfl ?_|refine T.cond rfl (fun hc=>?_) (fun hc=>?_)|refine T.ret ?_|simp only [za,z8,reduceIte,Nat.reduceEqDiff]|((repeat ((fail_if_success (refine hK _ ?_));clear hK K));refine hK _ ?_;clear hK K))
     refine hKL _ (k+1) ?_ ⟨hkn,hrg2,fun q a b hq=>by omega⟩ (by omega)
     refine zk.of' rfl ?_;simp only [wks,reduceIte,Nat.reduceEqDiff,ASt.okB,AV.okB,Nat.reduceLT,implies_true,zm (show k<1152921504606846976 by omega)]
    ·have hd2:decide ((0:Int)<(k:Int))=true:=by simp;omega
     have hwp:=z0Q (show 0<k by omega) (show k<1152921504606846976 by omega)
     have hp0:(0:Int)≤((k-1:Nat):Int):=by omega
     obtain ⟨y,hy⟩:=zT (show k-1<ev.length by omega)
     have m2:=qN hy
     have hx3:ev[(k-1)+1]? = some x:=by rw [show k-1+1=k by omega];exact hx
     cases hd3:decide (x≤y) with
     | true =>
      have hB:chkB l I J o ev=false:=zV fun h=>by
       have h1:=h.inc (k-1) y x hy hx3
       have h2:=of_decide_eq_true hd3
       omega
      repeat' (first|refine T.zh fun K hK=>?_|refine T.block ?_|refine T.skip ?_|refine T.exit ?_|refine T.zf rfl ?_|refine T.ze rfl ?_|refine T.cond rfl (fun hc=>?_) (fun hc=>?_)|refine T.ret ?_|simp only [za,z8,reduceIte,Nat.reduceEqDiff]|((repeat ((fail_if_success (refine hK _ ?_));clear hK K));refine hK _ ?_;clear hK K))
      (refine T.reg (by kernel_rfl) fun K' hK'=>?_;simp only [bz];(repeat' (first|(with_reducible refine WL.fin ?_;refine hK' _ ?_;clear hK' K')|((with_reducible refine WL.step fun K2 hK2=>?_);simp only [simprocAttr,implies_true,amz,tys,hlm,hzl,hd];(repeat' with_reducible (first|(refine hK2 _ ?_;clear hK2 K2)|refine And.intro ?_ ?_|intro hb)))));all_goals ((try simp only [za,z8,reduceIte,Nat.reduceEqDiff]);(try ((repeat ((fail_if_success (refine hK _ ?_));clear hK K));refine hK _ ?_;clear hK K))))
      repeat' (first|refine T.zh fun K hK=>?_|refine T.block ?_|refine T.skip ?_|refine T.exit ?_|refine T.zf rfl ?_|refine T.ze rfl ?_|refine T.cond rfl (fun hc=>?_) (fun hc=>?_)|refine T.ret ?_|simp only [za,z8,reduceIte,Nat.reduceEqDiff]|((repeat ((fail_if_success (refine hK _ ?_));clear hK K));refine hK _ ?_;clear hK K))
      refine T.comm [some (0,0),some (0,0),some (0,0),some (0,0),some (0,0),some (0,0),some (0,0),some (0,0),some (0,0),some (0,0),some (0,0),some (0,0),some (0,0),some (0,0),some (0,0),some (0,0),some (0,0),some (0,0),some (0,0),some (0,0),some (0,0),some (0,0),some (0,0),some (0,0),some (0,0),some (0,0),some (0,0),some (0,0),some (0,0),some (0,0),some (0,0),some (0,0),some (0,0),some (0,0)] (by kernel_rfl) (by kernel_rfl) fun K' hK'=>?_;simp only [List.map_cons,List.map_nil,List.zip_cons_cons,List.zip_nil_left];(repeat' (first|(with_reducible refine WC.fin ?_;refine hK' _ ?_;clear hK' K')|((first|(with_reducible refine WC.z0P fun K2 hK2=>?_)|(with_reducible refine WC.stepW fun K2 hK2=>?_));simp only [simprocAttr,implies_true,amz,WCg,WCv,WOw,allP,dav,Chk,List.filter_cons,List.filter_nil,bne_self_eq_false,Nat.reduceBneDiff,Bool.false_eq_true,tys,hlm,hk0,hp0,hwp,Int.toNat_natCast,m1,m2,d1,d2,hd2,hd3];(repeat' (first|(with_reducible refine hK2 _ _ ?_;clear hK2 K2)|with_reducible (first|(refine hK2 _ ?_;clear hK2 K2)|refine And.intro ?_ ?_|intro hb)|(with_reducible rfl)|((with_reducible show @Eq ASt _ _);rfl) )))));all_goals ((try simp only [za,z8,reduceIte,Nat.reduceEqDiff]);(try ((repeat ((fail_if_success (refine hK _ ?_));clear hK K));refine hK _ ?_;clear hK K)))
      repeat' (first|refine T.zh fun K hK=>?_|refine T.block ?_|(refine T.reg (by kernel_rfl) fun K' hK'=>?_;simp only [bz];(repeat' (first|(with_reducible refine WL.fin ?_;refine hK' _ ?_;clear hK' K')|((with_reducible refine WL.step fun K2 hK2=>?_);simp only [simprocAttr,implies_true,amz,tys];(repeat' with_reducible (first|(refine hK2 _ ?_;clear hK2 K2)|refine And.intro ?_ ?_|intro hb))))))|refine T.skip ?_|refine T.exit ?_|refine T.zf rfl ?_|refine T.ze rfl ?_|refine T.cond rfl (fun hc=>?_) (fun hc=>?_)|refine T.ret ?_|simp only [za,z8,reduceIte,Nat.reduceEqDiff]|((repeat ((fail_if_success (refine hK _ ?_));clear hK K));refine hK _ ?_;clear hK K))
      all_goals (refine zy.ret (.inr rfl) Try.results17 ?_;simp only [zu,zo,zn,simprocAttr,implies_true,amz,tys,hB])
     | false =>
      repeat' (first|refine T.zh fun K hK=>?_|refine T.block ?_|refine T.skip ?_|refine T.exit ?_|refine T.zf rfl ?_|refine T.ze rfl ?_|refine T.cond rfl (fun hc=>?_) (fun hc=>?_)|refine T.ret ?_|simp only [za,z8,reduceIte,Nat.reduceEqDiff]|((repeat ((fail_if_success (refine hK _ ?_));clear hK K));refine hK _ ?_;clear hK K))
      (refine T.reg (by kernel_rfl) fun K' hK'=>?_;simp only [bz];(repeat' (first|(with_reducible refine WL.fin ?_;refine hK' _ ?_;clear hK' K')|((with_reducible refine WL.step fun K2 hK2=>?_);simp only [simprocAttr,implies_true,amz,tys,hlm,hzl,hd];(repeat' with_reducible (first|(refine hK2 _ ?_;clear hK2 K2)|refine And.intro ?_ ?_|intro hb)))));all_goals ((try simp only [za,z8,reduceIte,Nat.reduceEqDiff]);(try ((repeat ((fail_if_success (refine hK _ ?_));clear hK K));refine hK _ ?_;clear hK K))))
      repeat' (first|refine T.zh fun K hK=>?_|refine T.block ?_|refine T.skip ?_|refine T.exit ?_|refine T.zf rfl ?_|refine T.ze rfl ?_|refine T.cond rfl (fun hc=>?_) (fun hc=>?_)|refine T.ret ?_|simp only [za,z8,reduceIte,Nat.reduceEqDiff]|((repeat ((fail_if_success (refine hK _ ?_));clear hK K));refine hK _ ?_;clear hK K))
      refine T.comm [some (0,0),some (0,0),some (0,0),some (0,0),some (0,0),some (0,0),some (0,0),some (0,0),some (0,0),some (0,0),some (0,0),some (0,0),some (0,0),some (0,0),some (0,0),some (0,0),some (0,0),some (0,0),some (0,0),some (0,0),some (0,0),some (0,0),some (0,0),some (0,0),some (0,0),some (0,0),some (0,0),some (0,0),some (0,0),some (0,0),some (0,0),some (0,0),some (0,0),some (0,0)] (by kernel_rfl) (by kernel_rfl) fun K' hK'=>?_;simp only [List.map_cons,List.map_nil,List.zip_cons_cons,List.zip_nil_left];(repeat' (first|(with_reducible refine WC.fin ?_;refine hK' _ ?_;clear hK' K')|((first|(with_reducible refine WC.z0P fun K2 hK2=>?_)|(with_reducible refine WC.stepW fun K2 hK2=>?_));simp only [simprocAttr,implies_true,amz,WCg,WCv,WOw,allP,dav,Chk,List.filter_cons,List.filter_nil,bne_self_eq_false,Nat.reduceBneDiff,Bool.false_eq_true,tys,hlm,hk0,hp0,hwp,Int.toNat_natCast,m1,m2,d1,d2,hd2,hd3];(repeat' (first|(with_reducible refine hK2 _ _ ?_;clear hK2 K2)|with_reducible (first|(refine hK2 _ ?_;clear hK2 K2)|refine And.intro ?_ ?_|intro hb)|(with_reducible rfl)|((with_reducible show @Eq ASt _ _);rfl) )))));all_goals ((try simp only [za,z8,reduceIte,Nat.reduceEqDiff]);(try ((repeat ((fail_if_success (refine hK _ ?_));clear hK K));refine hK _ ?_;clear hK K)))
      repeat' (first|refine T.zh fun K hK=>?_|refine T.block ?_|(refine T.reg (by kernel_rfl) fun K' hK'=>?_;simp only [bz];(repeat' (first|(with_reducible refine WL.fin ?_;refine hK' _ ?_;clear hK' K')|((with_reducible refine WL.step fun K2 hK2=>?_);simp only [simprocAttr,implies_true,amz,tys];(repeat' with_reducible (first|(refine hK2 _ ?_;clear hK2 K2)|refine And.intro ?_ ?_|intro hb))))))|refine T.skip ?_|refine T.exit ?_|refine T.zf rfl ?_|refine T.ze rfl ?_|refine T.cond rfl (fun hc=>?_) (fun hc=>?_)|refine T.ret ?_|simp only [za,z8,reduceIte,Nat.reduceEqDiff]|((repeat ((fail_if_success (refine hK _ ?_));clear hK K));refine hK _ ?_;clear hK K))
      refine hKL _ (k+1) ?_ ⟨hkn,hrg2,fun q a b hq ha hb=>?_⟩ (by omega)
      ·refine zk.of' rfl ?_;simp only [wks,reduceIte,Nat.reduceEqDiff,ASt.okB,AV.okB,Nat.reduceLT,implies_true,zm (show k<1152921504606846976 by omega)]
      ·by_cases e:q=k-1
       ·subst e
        rw [hy] at ha;rw [hx3] at hb
        cases ha;cases hb
        have h2:=of_decide_eq_false hd3
        omega
       ·exact hinc q a b (by omega) ha hb
   ·have hB:chkB l I J o ev=false:=zV fun h=>hb (h.rng x hxm)
    cases d1:decide (x<0) with
    | true =>
     repeat' (first|refine T.zh fun K hK=>?_|refine T.block ?_|refine T.skip ?_|refine T.exit ?_|refine T.zf rfl ?_|refine T.ze rfl ?_|refine T.cond rfl (fun hc=>?_) (fun hc=>?_)|refine T.ret ?_|simp only [za,z8,reduceIte,Nat.reduceEqDiff]|((repeat ((fail_if_success (refine hK _ ?_));clear hK K));refine hK _ ?_;clear hK K))
     (refine T.reg (by kernel_rfl) fun K' hK'=>?_;simp only [bz];(repeat' (first|(with_reducible refine WL.fin ?_;refine hK' _ ?_;clear hK' K')|((with_reducible refine WL.step fun K2 hK2=>?_);simp only [simprocAttr,implies_true,amz,tys,hlm,hzl,hd];(repeat' with_reducible (first|(refine hK2 _ ?_;clear hK2 K2)|refine And.intro ?_ ?_|intro hb)))));all_goals ((try simp only [za,z8,reduceIte,Nat.reduceEqDiff]);(try ((repeat ((fail_if_success (refine hK _ ?_));clear hK K));refine hK _ ?_;clear hK K))))
     repeat' (first|refine T.zh fun K hK=>?_|refine T.block ?_|refine T.skip ?_|refine T.exit ?_|refine T.zf rfl ?_|refine T.ze rfl ?_|refine T.cond rfl (fun hc=>?_) (fun hc=>?_)|refine T.ret ?_|simp only [za,z8,reduceIte,Nat.reduceEqDiff]|((repeat ((fail_if_success (refine hK _ ?_));clear hK K));refine hK _ ?_;clear hK K))
     refine T.comm [some (0,0),some (0,0),some (0,0),some (0,0),some (0,0),some (0,0),some (0,0),some (0,0),some (0,0),some (0,0),some (0,0),some (0,0),some (0,0),some (0,0),some (0,0),some (0,0),some (0,0),some (0,0),some (0,0),some (0,0),some (0,0),some (0,0),some (0,0),some (0,0),some (0,0),some (0,0),some (0,0),some (0,0),some (0,0),some (0,0),some (0,0),some (0,0),some (0,0),some (0,0)] (by kernel_rfl) (by kernel_rfl) fun K' hK'=>?_;simp only [List.map_cons,List.map_nil,List.zip_cons_cons,List.zip_nil_left];(repeat' (first|(with_reducible refine WC.fin ?_;refine hK' _ ?_;clear hK' K')|((first|(with_reducible refine WC.z0P fun K2 hK2=>?_)|(with_reducible refine WC.stepW fun K2 hK2=>?_));simp only [simprocAttr,implies_true,amz,WCg,WCv,WOw,allP,dav,Chk,List.filter_cons,List.filter_nil,bne_self_eq_false,Nat.reduceBneDiff,Bool.false_eq_true,tys,hlm,hk0,Int.toNat_natCast,m1,d1];(repeat' (first|(with_reducible refine hK2 _ _ ?_;clear hK2 K2)|with_reducible (first|(refine hK2 _ ?_;clear hK2 K2)|refine And.intro ?_ ?_|intro hb)|(with_reducible rfl)|((with_reducible show @Eq ASt _ _);rfl) )))));all_goals ((try simp only [za,z8,reduceIte,Nat.reduceEqDiff]);(try ((repeat ((fail_if_success (refine hK _ ?_));clear hK K));refine hK _ ?_;clear hK K)))
     repeat' (first|refine T.zh fun K hK=>?_|refine T.block ?_|(refine T.reg (by kernel_rfl) fun K' hK'=>?_;simp only [bz];(repeat' (first|(with_reducible refine WL.fin ?_;refine hK' _ ?_;clear hK' K')|((with_reducible refine WL.step fun K2 hK2=>?_);simp only [simprocAttr,implies_true,amz,tys];(repeat' with_reducible (first|(refine hK2 _ ?_;clear hK2 K2)|refine And.intro ?_ ?_|intro hb))))))|refine T.skip ?_|refine T.exit ?_|refine T.zf rfl ?_|refine T.ze rfl ?_|refine T.cond rfl (fun hc=>?_) (fun hc=>?_)|refine T.ret ?_|simp only [za,z8,reduceIte,Nat.reduceEqDiff]|((repeat ((fail_if_success (refine hK _ ?_));clear hK K));refine hK _ ?_;clear hK K))
     all_goals (refine zy.ret (.inr rfl) Try.results17 ?_;simp only [zu,zo,zn,simprocAttr,implies_true,amz,tys,hB])
    | false =>
     have d2:decide ((l.length:Int)≤x)=true:=by have:=of_decide_eq_false d1;simp;omega
     repeat' (first|refine T.zh fun K hK=>?_|refine T.block ?_|refine T.skip ?_|refine T.exit ?_|refine T.zf rfl ?_|refine T.ze rfl ?_|refine T.cond rfl (fun hc=>?_) (fun hc=>?_)|refine T.ret ?_|simp only [za,z8,reduceIte,Nat.reduceEqDiff]|((repeat ((fail_if_success (refine hK _ ?_));clear hK K));refine hK _ ?_;clear hK K))
     (refine T.reg (by kernel_rfl) fun K' hK'=>?_;simp only [bz];(repeat' (first|(with_reducible refine WL.fin ?_;refine hK' _ ?_;clear hK' K')|((with_reducible refine WL.step fun K2 hK2=>?_);simp only [simprocAttr,implies_true,amz,tys,hlm,hzl,hd];(repeat' with_reducible (first|(refine hK2 _ ?_;clear hK2 K2)|refine And.intro ?_ ?_|intro hb)))));all_goals ((try simp only [za,z8,reduceIte,Nat.reduceEqDiff]);(try ((repeat ((fail_if_success (refine hK _ ?_));clear hK K));refine hK _ ?_;clear hK K))))
     repeat' (first|refine T.zh fun K hK=>?_|refine T.block ?_|refine T.skip ?_|refine T.exit ?_|refine T.zf rfl ?_|refine T.ze rfl ?_|refine T.cond rfl (fun hc=>?_) (fun hc=>?_)|refine T.ret ?_|simp only [za,z8,reduceIte,Nat.reduceEqDiff]|((repeat ((fail_if_success (refine hK _ ?_));clear hK K));refine hK _ ?_;clear hK K))
     refine T.comm [some (0,0),some (0,0),some (0,0),some (0,0),some (0,0),some (0,0),some (0,0),some (0,0),some (0,0),some (0,0),some (0,0),some (0,0),some (0,0),some (0,0),some (0,0),some (0,0),some (0,0),some (0,0),some (0,0),some (0,0),some (0,0),some (0,0),some (0,0),some (0,0),some (0,0),some (0,0),some (0,0),some (0,0),some (0,0),some (0,0),some (0,0),some (0,0),some (0,0),some (0,0)] (by kernel_rfl) (by kernel_rfl) fun K' hK'=>?_;simp only [List.map_cons,List.map_nil,List.zip_cons_cons,List.zip_nil_left];(repeat' (first|(with_reducible refine WC.fin ?_;refine hK' _ ?_;clear hK' K')|((first|(with_reducible refine WC.z0P fun K2 hK2=>?_)|(with_reducible refine WC.stepW fun K2 hK2=>?_));simp only [simprocAttr,implies_true,amz,WCg,WCv,WOw,allP,dav,Chk,List.filter_cons,List.filter_nil,bne_self_eq_false,Nat.reduceBneDiff,Bool.false_eq_true,tys,hlm,hk0,Int.toNat_natCast,m1,d1,d2];(repeat' (first|(with_reducible refine hK2 _ _ ?_;clear hK2 K2)|with_reducible (first|(refine hK2 _ ?_;clear hK2 K2)|refine And.intro ?_ ?_|intro hb)|(with_reducible rfl)|((with_reducible show @Eq ASt _ _);rfl) )))));all_goals ((try simp only [za,z8,reduceIte,Nat.reduceEqDiff]);(try ((repeat ((fail_if_success (refine hK _ ?_));clear hK K));refine hK _ ?_;clear hK K)))
     repeat' (first|refine T.zh fun K hK=>?_|refine T.block ?_|(refine T.reg (by kernel_rfl) fun K' hK'=>?_;simp only [bz];(repeat' (first|(with_reducible refine WL.fin ?_;refine hK' _ ?_;clear hK' K')|((with_reducible refine WL.step fun K2 hK2=>?_);simp only [simprocAttr,implies_true,amz,tys];(repeat' with_reducible (first|(refine hK2 _ ?_;clear hK2 K2)|refine And.intro ?_ ?_|intro hb))))))|refine T.skip ?_|refine T.exit ?_|refine T.zf rfl ?_|refine T.ze rfl ?_|refine T.cond rfl (fun hc=>?_) (fun hc=>?_)|refine T.ret ?_|simp only [za,z8,reduceIte,Nat.reduceEqDiff]|((repeat ((fail_if_success (refine hK _ ?_));clear hK K));refine hK _ ?_;clear hK K))
     all_goals (refine zy.ret (.inr rfl) Try.results17 ?_;simp only [zu,zo,zn,simprocAttr,implies_true,amz,tys,hB])
  have hd:decide ((k:Int)<(ev.length:Int))=false:=by simpa using hkn
  have hke:k=ev.length:=by omega
  rw [hke,List.take_length] at hrg
  have hin : ∀ q a b,ev[q]? = some a→ev[q+1]? = some b→a<b:=fun q a b ha hb=>hinc q a b (by have:=(List.getElem?_eq_some_iff.1 hb).1;omega) ha hb
  clear hinc hke hk hkn
  cases o with
  | true =>
   by_cases he0:ev.length=0
   ·have hd0:((ev.length:Int)==0)=true:=by rw [he0];rfl
    have hB:chkB l I J true ev=false:=zV fun h=>by
     have h1:=(List.getElem?_eq_some_iff.1 (h.fst rfl)).1;omega
    repeat' (first|refine T.zh fun K hK=>?_|refine T.block ?_|(refine T.reg (by kernel_rfl) fun K' hK'=>?_;simp only [bz];(repeat' (first|(with_reducible refine WL.fin ?_;refine hK' _ ?_;clear hK' K')|((with_reducible refine WL.step fun K2 hK2=>?_);simp only [simprocAttr,implies_true,amz,tys,hlm,hzl,hd,hd0];(repeat' with_reducible (first|(refine hK2 _ ?_;clear hK2 K2)|refine And.intro ?_ ?_|intro hb))))))|refine T.skip ?_|refine T.exit ?_|refine T.zf rfl ?_|refine T.ze rfl ?_|refine T.cond rfl (fun hc=>?_) (fun hc=>?_)|refine T.ret ?_|simp only [za,z8,reduceIte,Nat.reduceEqDiff]|((repeat ((fail_if_success (refine hK _ ?_));clear hK K));refine hK _ ?_;clear hK K))
    all_goals (refine zy.ret (.inr rfl) Try.results17 ?_;simp only [zu,zo,zn,simprocAttr,implies_true,amz,tys,hB])
   have hd0:((ev.length:Int)==0)=false:=by rw [beq_eq_false_iff_ne];omega
   have hsub:=z0Q (show 0<ev.length by omega) (show ev.length<1152921504606846976 by omega)
   have hl0:(0:Int)≤((ev.length-1:Nat):Int):=by omega
   obtain ⟨x,hx⟩:=zT (show 0<ev.length by omega)
   obtain ⟨y,hy⟩:=zT (show ev.length-1<ev.length by omega)
   have m1:=qN hx
   have m2:=qN hy
   have ht0:(0:Int).toNat=0:=rfl
   cases e1:(x != (I:Int)) with
   | true =>
    have hB:chkB l I J true ev=false:=zV fun h=>by
     have h1:=h.fst rfl
     rw [hx] at h1;cases h1;simp at e1
    repeat' (first|refine T.zh fun K hK=>?_|refine T.block ?_|(refine T.reg (by kernel_rfl) fun K' hK'=>?_;simp only [bz];(repeat' (first|(with_reducible refine WL.fin ?_;refine hK' _ ?_;clear hK' K')|((with_reducible refine WL.step fun K2 hK2=>?_);simp only [simprocAttr,implies_true,amz,tys,hlm,hzl,hd,hd0,ht0,m1,e1];(repeat' with_reducible (first|(refine hK2 _ ?_;clear hK2 K2)|refine And.intro ?_ ?_|intro hb))))))|refine T.skip ?_|refine T.exit ?_|refine T.zf rfl ?_|refine T.ze rfl ?_|refine T.cond rfl (fun hc=>?_) (fun hc=>?_)|refine T.ret ?_|simp only [za,z8,reduceIte,Nat.reduceEqDiff]|((repeat ((fail_if_success (refine hK _ ?_));clear hK K));refine hK _ ?_;clear hK K))
    all_goals (refine zy.ret (.inr rfl) Try.results17 ?_;simp only [zu,zo,zn,simprocAttr,implies_true,amz,tys,hB])
   | false =>
    cases e2:(y != (J:Int)) with
    | true =>
     have hB:chkB l I J true ev=false:=zV fun h=>by
      have h1:=h.lst rfl
      rw [hy] at h1;cases h1;simp at e2
     repeat' (first|refine T.zh fun K hK=>?_|refine T.block ?_|(refine T.reg (by kernel_rfl) fun K' hK'=>?_;simp only [bz];(repeat' (first|(with_reducible refine WL.fin ?_;refine hK' _ ?_;clear hK' K')|((with_reducible refine WL.step fun K2 hK2=>?_);simp only [simprocAttr,implies_true,amz,tys,hlm,hzl,hd,hd0,ht0,hsub,hl0,Int.toNat_natCast,m1,m2,e1,e2];(repeat' with_reducible (first|(refine hK2 _ ?_;clear hK2 K2)|refine And.intro ?_ ?_|intro hb))))))|refine T.skip ?_|refine T.exit ?_|refine T.zf rfl ?_|refine T.ze rfl ?_|refine T.cond rfl (fun hc=>?_) (fun hc=>?_)|refine T.ret ?_|simp only [za,z8,reduceIte,Nat.reduceEqDiff]|((repeat ((fail_if_success (refine hK _ ?_));clear hK K));refine hK _ ?_;clear hK K))
     all_goals (refine zy.ret (.inr rfl) Try.results17 ?_;simp only [zu,zo,zn,simprocAttr,implies_true,amz,tys,hB])
    | false =>
     have hxI:x=(I:Int):=by simpa using e1
     have hyJ:y=(J:Int):=by simpa using e2
     repeat' (first|refine T.zh fun K hK=>?_|refine T.block ?_|(refine T.reg (by kernel_rfl) fun K' hK'=>?_;simp only [bz];(repeat' (first|(with_reducible refine WL.fin ?_;refine hK' _ ?_;clear hK' K')|((with_reducible refine WL.step fun K2 hK2=>?_);simp only [simprocAttr,implies_true,amz,tys,hlm,hzl,hd,hd0,ht0,hsub,hl0,Int.toNat_natCast,m1,m2,e1,e2];(repeat' with_reducible (first|(refine hK2 _ ?_;clear hK2 K2)|refine And.intro ?_ ?_|intro hb))))))|refine T.skip ?_|refine T.exit ?_|refine T.zf rfl ?_|refine T.ze rfl ?_|refine T.cond rfl (fun hc=>?_) (fun hc=>?_)|refine T.ret ?_|simp only [za,z8,reduceIte,Nat.reduceEqDiff]|((repeat ((fail_if_success (refine hK _ ?_));clear hK K));refine hK _ ?_;clear hK K))
     refine T.qc (fun k:Nat=>⟨[(0,.p (.seq 9 (l.map evC))),(7,.ptr 0 0),(10,.int ev.length),(11,.int k)],[(0,.boxP none 26 [.bool true,.p (.seq 1 (rowZ ev))])],144,1⟩) (fun k => 1≤k∧k≤ev.length ∧ ∀ q a b,q+1<k→ev[q]? = some a→ev[q+1]? = some b→qi l a.toNat b.toNat=true) (fun k=>ev.length-k) 1 ⟨Nat.le_refl _,by omega,fun q a b hq=>by omega⟩ (by refine zk.of' rfl ?_;simp only [wks,reduceIte,Nat.reduceEqDiff,ASt.okB,AV.okB,Nat.reduceLT,implies_true,Int.natCast_one]) ?_
     rintro c ⟨hc1,hc,him⟩ KL2 hKL2
     by_cases hcn:c<ev.length
     ·have hd2:decide ((c:Int)<(ev.length:Int))=true:=by simpa using hcn
      have hc0:(0:Int)≤(c:Int):=by omega
      have hwp:=z0Q (show 0<c by omega) (show c<1152921504606846976 by omega)
      have hp0:(0:Int)≤((c-1:Nat):Int):=by omega
      obtain ⟨a,ha⟩:=zT (show c-1<ev.length by omega)
      obtain ⟨b,hb⟩:=zT hcn
      have n1:=qN ha
      have n2:=qN hb
      have hb3:ev[(c-1)+1]? = some b:=by rw [show c-1+1=c by omega];exact hb
      have hab:=hin (c-1) a b ha hb3
      have hcall:=z6u hl (hrg a (List.mem_of_getElem? ha)).1 hab (hrg b (List.mem_of_getElem? hb)).2
      cases hi:qi l a.toNat b.toNat with
      | true =>
       rw [hi] at hcall
       repeat' (first|refine T.zh fun K hK=>?_|refine T.block ?_|refine T.skip ?_|refine T.exit ?_|refine T.zf rfl ?_|refine T.ze rfl ?_|refine T.cond rfl (fun hc=>?_) (fun hc=>?_)|refine T.ret ?_|simp only [za,z8,reduceIte,Nat.reduceEqDiff]|((repeat ((fail_if_success (refine hK _ ?_));clear hK K));refine hK _ ?_;clear hK K))
       (refine T.reg (by kernel_rfl) fun K' hK'=>?_;simp only [bz];(repeat' (first|(with_reducible refine WL.fin ?_;refine hK' _ ?_;clear hK' K')|((with_reducible refine WL.step fun K2 hK2=>?_);simp only [simprocAttr,implies_true,amz,tys,hd2];(repeat' with_reducible (first|(refine hK2 _ ?_;clear hK2 K2)|refine And.intro ?_ ?_|intro hb)))));all_goals ((try simp only [za,z8,reduceIte,Nat.reduceEqDiff]);(try ((repeat ((fail_if_success (refine hK _ ?_));clear hK K));refine hK _ ?_;clear hK K))))
       repeat' (first|refine T.zh fun K hK=>?_|refine T.block ?_|refine T.skip ?_|refine T.exit ?_|refine T.zf rfl ?_|refine T.ze rfl ?_|refine T.cond rfl (fun hc=>?_) (fun hc=>?_)|refine T.ret ?_|simp only [za,z8,reduceIte,Nat.reduceEqDiff]|((repeat ((fail_if_success (refine hK _ ?_));clear hK K));refine hK _ ?_;clear hK K))
       refine T.drw 12 (by kernel_rfl) (by kernel_rfl) fun K' hK'=>?_;simp only [List.map_cons,List.map_nil];(repeat' (first|(with_reducible refine WL.fin ?_;refine hK' _ ?_;clear hK' K')|(with_reducible refine WD.fin ?_)|((with_reducible first|refine WL.step fun K2 hK2=>?_|refine WD.step fun K2 hK2=>?_);simp only [simprocAttr,implies_true,amz,tys,hc0,hp0,hwp,Int.toNat_natCast,n1,n2,Bool.not_true];(repeat' (first|with_reducible (first|(refine hK2 _ ?_;clear hK2 K2)|refine And.intro ?_ ?_|intro hb)|((first|(with_reducible apply zg)|(with_reducible apply zl));case h=>exact CallV.plain (Ent.of Try.func30 (by kernel_rfl) rfl) (hcall) (by simp [AV.okB])))))));all_goals ((try simp only [za,z8,reduceIte,Nat.reduceEqDiff]);(try ((repeat ((fail_if_success (refine hK _ ?_));clear hK K));refine hK _ ?_;clear hK K)))
       repeat' (first|refine T.zh fun K hK=>?_|refine T.block ?_|(refine T.reg (by kernel_rfl) fun K' hK'=>?_;simp only [bz];(repeat' (first|(with_reducible refine WL.fin ?_;refine hK' _ ?_;clear hK' K')|((with_reducible refine WL.step fun K2 hK2=>?_);simp only [simprocAttr,implies_true,amz,tys];(repeat' with_reducible (first|(refine hK2 _ ?_;clear hK2 K2)|refine And.intro ?_ ?_|intro hb))))))|refine T.skip ?_|refine T.exit ?_|refine T.zf rfl ?_|refine T.ze rfl ?_|refine T.cond rfl (fun hc=>?_) (fun hc=>?_)|refine T.ret ?_|simp only [za,z8,reduceIte,Nat.reduceEqDiff]|((repeat ((fail_if_success (refine hK _ ?_));clear hK K));refine hK _ ?_;clear hK K))
       refine hKL2 _ (c+1) ?_ ⟨by omega,hcn,fun q u v hq hu hv=>?_⟩ (by omega)
       ·refine zk.of' rfl ?_;simp only [wks,reduceIte,Nat.reduceEqDiff,ASt.okB,AV.okB,Nat.reduceLT,implies_true,zm (show c<1152921504606846976 by omega)]
       ·by_cases e:q=c-1
        ·subst e
         rw [ha] at hu;rw [hb3] at hv
         cases hu;cases hv;exact hi
        ·exact him q u v (by omega) hu hv
      | false =>
       have hB:chkB l I J true ev=false:=zV fun h=>by
        have h1:=h.imm rfl (c-1) a b ha hb3
        rw [hi] at h1;cases h1
       rw [hi] at hcall
       repeat' (first|refine T.zh fun K hK=>?_|refine T.block ?_|refine T.skip ?_|refine T.exit ?_|refine T.zf rfl ?_|refine T.ze rfl ?_|refine T.cond rfl (fun hc=>?_) (fun hc=>?_)|refine T.ret ?_|simp only [za,z8,reduceIte,Nat.reduceEqDiff]|((repeat ((fail_if_success (refine hK _ ?_));clear hK K));refine hK _ ?_;clear hK K))
       (refine T.reg (by kernel_rfl) fun K' hK'=>?_;simp only [bz];(repeat' (first|(with_reducible refine WL.fin ?_;refine hK' _ ?_;clear hK' K')|((with_reducible refine WL.step fun K2 hK2=>?_);simp only [simprocAttr,implies_true,amz,tys,hd2];(repeat' with_reducible (first|(refine hK2 _ ?_;clear hK2 K2)|refine And.intro ?_ ?_|intro hb)))));all_goals ((try simp only [za,z8,reduceIte,Nat.reduceEqDiff]);(try ((repeat ((fail_if_success (refine hK _ ?_));clear hK K));refine hK _ ?_;clear hK K))))
       repeat' (first|refine T.zh fun K hK=>?_|refine T.block ?_|refine T.skip ?_|refine T.exit ?_|refine T.zf rfl ?_|refine T.ze rfl ?_|refine T.cond rfl (fun hc=>?_) (fun hc=>?_)|refine T.ret ?_|simp only [za,z8,reduceIte,Nat.reduceEqDiff]|((repeat ((fail_if_success (refine hK _ ?_));clear hK K));refine hK _ ?_;clear hK K))
       refine T.drw 12 (by kernel_rfl) (by kernel_rfl) fun K' hK'=>?_;simp only [List.map_cons,List.map_nil];(repeat' (first|(with_reducible refine WL.fin ?_;refine hK' _ ?_;clear hK' K')|(with_reducible refine WD.fin ?_)|((with_reducible first|refine WL.step fun K2 hK2=>?_|refine WD.step fun K2 hK2=>?_);simp only [simprocAttr,implies_true,amz,tys,hc0,hp0,hwp,Int.toNat_natCast,n1,n2,Bool.not_false];(repeat' (first|with_reducible (first|(refine hK2 _ ?_;clear hK2 K2)|refine And.intro ?_ ?_|intro hb)|((first|(with_reducible apply zg)|(with_reducible apply zl));case h=>exact CallV.plain (Ent.of Try.func30 (by kernel_rfl) rfl) (hcall) (by simp [AV.okB])))))));all_goals ((try simp only [za,z8,reduceIte,Nat.reduceEqDiff]);(try ((repeat ((fail_if_success (refine hK _ ?_));clear hK K));refine hK _ ?_;clear hK K)))
       repeat' (first|refine T.zh fun K hK=>?_|refine T.block ?_|(refine T.reg (by kernel_rfl) fun K' hK'=>?_;simp only [bz];(repeat' (first|(with_reducible refine WL.fin ?_;refine hK' _ ?_;clear hK' K')|((with_reducible refine WL.step fun K2 hK2=>?_);simp only [simprocAttr,implies_true,amz,tys];(repeat' with_reducible (first|(refine hK2 _ ?_;clear hK2 K2)|refine And.intro ?_ ?_|intro hb))))))|refine T.skip ?_|refine T.exit ?_|refine T.zf rfl ?_|refine T.ze rfl ?_|refine T.cond rfl (fun hc=>?_) (fun hc=>?_)|refine T.ret ?_|simp only [za,z8,reduceIte,Nat.reduceEqDiff]|((repeat ((fail_if_success (refine hK _ ?_));clear hK K));refine hK _ ?_;clear hK K))
       all_goals (refine zy.ret (.inr rfl) Try.results17 ?_;simp only [zu,zo,zn,simprocAttr,implies_true,amz,tys,hB])
     have hd2:decide ((c:Int)<(ev.length:Int))=false:=by simpa using hcn
     have hB:chkB l I J true ev=true:=z1x ⟨hpp,hrg,hin,fun _=>by rw [hx,hxI],fun _=>by rw [hy,hyJ],fun _ q a b ha hb=>him q a b (by have:=(List.getElem?_eq_some_iff.1 hb).1;omega) ha hb,fun h=>(by cases h),fun h=>(by cases h),fun h=>(by cases h)⟩
     repeat' (first|refine T.zh fun K hK=>?_|refine T.block ?_|(refine T.reg (by kernel_rfl) fun K' hK'=>?_;simp only [bz];(repeat' (first|(with_reducible refine WL.fin ?_;refine hK' _ ?_;clear hK' K')|((with_reducible refine WL.step fun K2 hK2=>?_);simp only [simprocAttr,implies_true,amz,tys,hd2];(repeat' with_reducible (first|(refine hK2 _ ?_;clear hK2 K2)|refine And.intro ?_ ?_|intro hb))))))|refine T.skip ?_|refine T.exit ?_|refine T.zf rfl ?_|refine T.ze rfl ?_|refine T.cond rfl (fun hc=>?_) (fun hc=>?_)|refine T.ret ?_|simp only [za,z8,reduceIte,Nat.reduceEqDiff]|((repeat ((fail_if_success (refine hK _ ?_));clear hK K));refine hK _ ?_;clear hK K))
     all_goals (refine zy.ret (.inr rfl) Try.results17 ?_;simp only [zu,zo,zn,simprocAttr,implies_true,amz,tys,hB])
  | false =>
   have hci:=z5L ev I (by omega)
   have hcj:=z5L ev J (by omega)
   cases cI:ev.contains (I:Int) with
   | true =>
    have hB:chkB l I J false ev=false:=zV fun h=>h.noI rfl (List.contains_iff_mem.1 cI)
    rw [cI] at hci
    repeat' (first|refine T.zh fun K hK=>?_|refine T.block ?_|(refine T.reg (by kernel_rfl) fun K' hK'=>?_;simp only [bz];(repeat' (first|(with_reducible refine WL.fin ?_;refine hK' _ ?_;clear hK' K')|((with_reducible refine WL.step fun K2 hK2=>?_);simp only [simprocAttr,implies_true,amz,tys,hlm,hzl,hd];(repeat' (first|with_reducible (first|(refine hK2 _ ?_;clear hK2 K2)|refine And.intro ?_ ?_|intro hb)|((first|(with_reducible apply zg)|(with_reducible apply zl));case h=>exact CallV.plain (Ent.of Try.func31 (by kernel_rfl) rfl) (hci) (by simp [AV.okB]))))))))|refine T.skip ?_|refine T.exit ?_|refine T.zf rfl ?_|refine T.ze rfl ?_|refine T.cond rfl (fun hc=>?_) (fun hc=>?_)|refine T.ret ?_|simp only [za,z8,reduceIte,Nat.reduceEqDiff]|((repeat ((fail_if_success (refine hK _ ?_));clear hK K));refine hK _ ?_;clear hK K))
    all_goals (refine zy.ret (.inr rfl) Try.results17 ?_;simp only [zu,zo,zn,simprocAttr,implies_true,amz,tys,hB])
   | false =>
    rw [cI] at hci
    cases cJ:ev.contains (J:Int) with
    | false =>
     have hB:chkB l I J false ev=false:=zV fun h=>by have:=List.contains_iff_mem.2 (h.hasJ rfl);rw [cJ] at this;cases this
     rw [cJ] at hcj
     repeat' (first|refine T.zh fun K hK=>?_|refine T.block ?_|(refine T.reg (by kernel_rfl) fun K' hK'=>?_;simp only [bz];(repeat' (first|(with_reducible refine WL.fin ?_;refine hK' _ ?_;clear hK' K')|((with_reducible refine WL.step fun K2 hK2=>?_);simp only [simprocAttr,implies_true,amz,tys,hlm,hzl,hd,Bool.not_false];(repeat' (first|with_reducible (first|(refine hK2 _ ?_;clear hK2 K2)|refine And.intro ?_ ?_|intro hb)|((first|(with_reducible apply zg)|(with_reducible apply zl));case h=>exact CallV.plain (Ent.of Try.func31 (by kernel_rfl) rfl) (hci) (by simp [AV.okB]))|((first|(with_reducible apply zg)|(with_reducible apply zl));case h=>exact CallV.plain (Ent.of Try.func31 (by kernel_rfl) rfl) (hcj) (by simp [AV.okB]))))))))|refine T.skip ?_|refine T.exit ?_|refine T.zf rfl ?_|refine T.ze rfl ?_|refine T.cond rfl (fun hc=>?_) (fun hc=>?_)|refine T.ret ?_|simp only [za,z8,reduceIte,Nat.reduceEqDiff]|((repeat ((fail_if_success (refine hK _ ?_));clear hK K));refine hK _ ?_;clear hK K))
     all_goals (refine zy.ret (.inr rfl) Try.results17 ?_;simp only [zu,zo,zn,simprocAttr,implies_true,amz,tys,hB])
    | true =>
     rw [cJ] at hcj
     repeat' (first|refine T.zh fun K hK=>?_|refine T.block ?_|(refine T.reg (by kernel_rfl) fun K' hK'=>?_;simp only [bz];(repeat' (first|(with_reducible refine WL.fin ?_;refine hK' _ ?_;clear hK' K')|((with_reducible refine WL.step fun K2 hK2=>?_);simp only [simprocAttr,implies_true,amz,tys,hlm,hzl,hd,Bool.not_true];(repeat' (first|with_reducible (first|(refine hK2 _ ?_;clear hK2 K2)|refine And.intro ?_ ?_|intro hb)|((first|(with_reducible apply zg)|(with_reducible apply zl));case h=>exact CallV.plain (Ent.of Try.func31 (by kernel_rfl) rfl) (hci) (by simp [AV.okB]))|((first|(with_reducible apply zg)|(with_reducible apply zl));case h=>exact CallV.plain (Ent.of Try.func31 (by kernel_rfl) rfl) (hcj) (by simp [AV.okB]))))))))|refine T.skip ?_|refine T.exit ?_|refine T.zf rfl ?_|refine T.ze rfl ?_|refine T.cond rfl (fun hc=>?_) (fun hc=>?_)|refine T.ret ?_|simp only [za,z8,reduceIte,Nat.reduceEqDiff]|((repeat ((fail_if_success (refine hK _ ?_));clear hK K));refine hK _ ?_;clear hK K))
     refine T.qc (fun c:Nat=>⟨[(0,.p (.seq 9 (l.map evC))),(7,.ptr 0 0),(10,.int ev.length),(12,.int c)],[(0,.boxP none 26 [.bool false,.p (.seq 1 (rowZ ev))])],144,1⟩) (fun c=>c≤ev.length ∧ ∀ x ∈ ev.take c,∀ m:Nat,(m:Int)<x→qi l m x.toNat=true→(m:Int) ∈ ev) (fun c=>ev.length-c) 0 ⟨Nat.zero_le _,by simp⟩ (by refine zk.of' rfl ?_;simp only [wks,reduceIte,Nat.reduceEqDiff,ASt.okB,AV.okB,Nat.reduceLT,implies_true,Int.natCast_zero]) ?_
     rintro c ⟨hc,hcl⟩ KL2 hKL2
     by_cases hcn:c<ev.length
     ·have hd2:decide ((c:Int)<(ev.length:Int))=true:=by simpa using hcn
      have hc0:(0:Int)≤(c:Int):=by omega
      obtain ⟨x,hx⟩:=zT hcn
      have m1:=qN hx
      have hts:=z1t hx
      have hxr:=hrg x (List.mem_of_getElem? hx)
      repeat' (first|refine T.zh fun K hK=>?_|refine T.block ?_|(refine T.reg (by kernel_rfl) fun K' hK'=>?_;simp only [bz];(repeat' (first|(with_reducible refine WL.fin ?_;refine hK' _ ?_;clear hK' K')|((with_reducible refine WL.step fun K2 hK2=>?_);simp only [simprocAttr,implies_true,amz,tys,hd2];(repeat' with_reducible (first|(refine hK2 _ ?_;clear hK2 K2)|refine And.intro ?_ ?_|intro hb))))))|refine T.skip ?_|refine T.exit ?_|refine T.zf rfl ?_|refine T.ze rfl ?_|refine T.cond rfl (fun hc=>?_) (fun hc=>?_)|refine T.ret ?_|simp only [za,z8,reduceIte,Nat.reduceEqDiff]|((repeat ((fail_if_success (refine hK _ ?_));clear hK K));refine hK _ ?_;clear hK K))
      refine T.qc (fun q:Nat=>⟨[(0,.p (.seq 9 (l.map evC))),(7,.ptr 0 0),(10,.int ev.length),(12,.int c),(13,.int q)],[(0,.boxP none 26 [.bool false,.p (.seq 1 (rowZ ev))])],144,1⟩) (fun q=>(q:Int)≤x ∧ ∀ m:Nat,m<q→qi l m x.toNat=true→(m:Int) ∈ ev) (fun q=>x.toNat-q) 0 ⟨by omega,fun m hm=>by omega⟩ (by refine zk.of' rfl ?_;simp only [wks,reduceIte,Nat.reduceEqDiff,ASt.okB,AV.okB,Nat.reduceLT,implies_true,Int.natCast_zero]) ?_
      rintro q ⟨hq,hcq⟩ KL3 hKL3
      by_cases hqx:(q:Int)<x
      ·have hd3:decide ((q:Int)<x)=true:=decide_eq_true hqx
       have hcall:=z6u hl (show (0:Int)≤(q:Int) by omega) hqx hxr.2
       rw [Int.toNat_natCast] at hcall
       have hch:=z5L ev q (by omega)
       cases c1:qi l q x.toNat with
       | false =>
        rw [c1] at hcall
        repeat' (first|refine T.zh fun K hK=>?_|refine T.block ?_|(refine T.reg (by kernel_rfl) fun K' hK'=>?_;simp only [bz];(repeat' (first|(with_reducible refine WL.fin ?_;refine hK' _ ?_;clear hK' K')|((with_reducible refine WL.step fun K2 hK2=>?_);simp only [simprocAttr,implies_true,amz,tys,hc0,Int.toNat_natCast,m1,hd3];(repeat' (first|with_reducible (first|(refine hK2 _ ?_;clear hK2 K2)|refine And.intro ?_ ?_|intro hb)|((first|(with_reducible apply zg)|(with_reducible apply zl));case h=>exact CallV.plain (Ent.of Try.func30 (by kernel_rfl) rfl) (hcall) (by simp [AV.okB]))))))))|refine T.skip ?_|refine T.exit ?_|refine T.zf rfl ?_|refine T.ze rfl ?_|refine T.cond rfl (fun hc=>?_) (fun hc=>?_)|refine T.ret ?_|simp only [za,z8,reduceIte,Nat.reduceEqDiff]|((repeat ((fail_if_success (refine hK _ ?_));clear hK K));refine hK _ ?_;clear hK K))
        refine hKL3 _ (q+1) ?_ ⟨by omega,fun m hm him=>?_⟩ (by omega)
        ·refine zk.of' rfl ?_;simp only [wks,reduceIte,Nat.reduceEqDiff,ASt.okB,AV.okB,Nat.reduceLT,implies_true,zm (show q<1152921504606846976 by omega)]
        ·by_cases e:m=q
         ·subst e;rw [c1] at him;cases him
         ·exact hcq m (by omega) him
       | true =>
        rw [c1] at hcall
        cases c2:ev.contains (q:Int) with
        | true =>
         rw [c2] at hch
         repeat' (first|refine T.zh fun K hK=>?_|refine T.block ?_|(refine T.reg (by kernel_rfl) fun K' hK'=>?_;simp only [bz];(repeat' (first|(with_reducible refine WL.fin ?_;refine hK' _ ?_;clear hK' K')|((with_reducible refine WL.step fun K2 hK2=>?_);simp only [simprocAttr,implies_true,amz,tys,hc0,Int.toNat_natCast,m1,hd3,Bool.not_true];(repeat' (first|with_reducible (first|(refine hK2 _ ?_;clear hK2 K2)|refine And.intro ?_ ?_|intro hb)|((first|(with_reducible apply zg)|(with_reducible apply zl));case h=>exact CallV.plain (Ent.of Try.func30 (by kernel_rfl) rfl) (hcall) (by simp [AV.okB]))|((first|(with_reducible apply zg)|(with_reducible apply zl));case h=>exact CallV.plain (Ent.of Try.func31 (by kernel_rfl) rfl) (hch) (by simp [AV.okB]))))))))|refine T.skip ?_|refine T.exit ?_|refine T.zf rfl ?_|refine T.ze rfl ?_|refine T.cond rfl (fun hc=>?_) (fun hc=>?_)|refine T.ret ?_|simp only [za,z8,reduceIte,Nat.reduceEqDiff]|((repeat ((fail_if_success (refine hK _ ?_));clear hK K));refine hK _ ?_;clear hK K))
         refine hKL3 _ (q+1) ?_ ⟨by omega,fun m hm him=>?_⟩ (by omega)
         ·refine zk.of' rfl ?_;simp only [wks,reduceIte,Nat.reduceEqDiff,ASt.okB,AV.okB,Nat.reduceLT,implies_true,zm (show q<1152921504606846976 by omega)]
         ·by_cases e:m=q
          ·subst e;exact List.contains_iff_mem.1 c2
          ·exact hcq m (by omega) him
        | false =>
         have hB:chkB l I J false ev=false:=zV fun h=>by
          have:=List.contains_iff_mem.2 (h.cls rfl x (List.mem_of_getElem? hx) q hqx c1)
          rw [c2] at this;cases this
         rw [c2] at hch
         repeat' (first|refine T.zh fun K hK=>?_|refine T.block ?_|(refine T.reg (by kernel_rfl) fun K' hK'=>?_;simp only [bz];(repeat' (first|(with_reducible refine WL.fin ?_;refine hK' _ ?_;clear hK' K')|((with_reducible refine WL.step fun K2 hK2=>?_);simp only [simprocAttr,implies_true,amz,tys,hc0,Int.toNat_natCast,m1,hd3,Bool.not_false];(repeat' (first|with_reducible (first|(refine hK2 _ ?_;clear hK2 K2)|refine And.intro ?_ ?_|intro hb)|((first|(with_reducible apply zg)|(with_reducible apply zl));case h=>exact CallV.plain (Ent.of Try.func30 (by kernel_rfl) rfl) (hcall) (by simp [AV.okB]))|((first|(with_reducible apply zg)|(with_reducible apply zl));case h=>exact CallV.plain (Ent.of Try.func31 (by kernel_rfl) rfl) (hch) (by simp [AV.okB]))))))))|refine T.skip ?_|refine T.exit ?_|refine T.zf rfl ?_|refine T.ze rfl ?_|refine T.cond rfl (fun hc=>?_) (fun hc=>?_)|refine T.ret ?_|simp only [za,z8,reduceIte,Nat.reduceEqDiff]|((repeat ((fail_if_success (refine hK _ ?_));clear hK K));refine hK _ ?_;clear hK K))
         all_goals (refine zy.ret (.inr rfl) Try.results17 ?_;simp only [zu,zo,zn,simprocAttr,implies_true,amz,tys,hB])
      have hd3:decide ((q:Int)<x)=false:=decide_eq_false hqx
      repeat' (first|refine T.zh fun K hK=>?_|refine T.block ?_|(refine T.reg (by kernel_rfl) fun K' hK'=>?_;simp only [bz];(repeat' (first|(with_reducible refine WL.fin ?_;refine hK' _ ?_;clear hK' K')|((with_reducible refine WL.step fun K2 hK2=>?_);simp only [simprocAttr,implies_true,amz,tys,hc0,Int.toNat_natCast,m1,hd3];(repeat' with_reducible (first|(refine hK2 _ ?_;clear hK2 K2)|refine And.intro ?_ ?_|intro hb))))))|refine T.skip ?_|refine T.exit ?_|refine T.zf rfl ?_|refine T.ze rfl ?_|refine T.cond rfl (fun hc=>?_) (fun hc=>?_)|refine T.ret ?_|simp only [za,z8,reduceIte,Nat.reduceEqDiff]|((repeat ((fail_if_success (refine hK _ ?_));clear hK K));refine hK _ ?_;clear hK K))
      refine hKL2 _ (c+1) ?_ ⟨hcn,fun y hy m hm him=>?_⟩ (by omega)
      ·refine zk.of' rfl ?_;simp only [wks,reduceIte,Nat.reduceEqDiff,ASt.okB,AV.okB,Nat.reduceLT,implies_true,zm (show c<1152921504606846976 by omega)]
      ·rw [hts,List.mem_append,List.mem_singleton] at hy
       rcases hy with hy|rfl
       ·exact hcl y hy m hm him
       ·exact hcq m (by omega) him
     have hd2:decide ((c:Int)<(ev.length:Int))=false:=by simpa using hcn
     have hB:chkB l I J false ev=true:=z1x (by
      rw [show c=ev.length by omega,List.take_length] at hcl
      exact ⟨hpp,hrg,hin,fun h=>(by cases h),fun h=>(by cases h),fun h=>(by cases h),fun _ h=>(by have:=List.contains_iff_mem.2 h;rw [cI] at this;cases this),fun _=>List.contains_iff_mem.1 cJ,fun _=>hcl⟩)
     repeat' (first|refine T.zh fun K hK=>?_|refine T.block ?_|(refine T.reg (by kernel_rfl) fun K' hK'=>?_;simp only [bz];(repeat' (first|(with_reducible refine WL.fin ?_;refine hK' _ ?_;clear hK' K')|((with_reducible refine WL.step fun K2 hK2=>?_);simp only [simprocAttr,implies_true,amz,tys,hd2];(repeat' with_reducible (first|(refine hK2 _ ?_;clear hK2 K2)|refine And.intro ?_ ?_|intro hb))))))|refine T.skip ?_|refine T.exit ?_|refine T.zf rfl ?_|refine T.ze rfl ?_|refine T.cond rfl (fun hc=>?_) (fun hc=>?_)|refine T.ret ?_|simp only [za,z8,reduceIte,Nat.reduceEqDiff]|((repeat ((fail_if_success (refine hK _ ?_));clear hK K));refine hK _ ?_;clear hK K))
     all_goals (refine zy.ret (.inr rfl) Try.results17 ?_;simp only [zu,zo,zn,simprocAttr,implies_true,amz,tys,hB])
theorem z3b {l:List Ev} {i j:Int} (h:plcB l i j=true):expX l i j=0:=by unfold expX;rw [if_pos h]
end Go.Proofs.Ytdlgoofjechocaa
namespace Go.Proofs.Ytdlgoofjechocaa
open Go.RowKit Go.Sort Go.ChangeShapes Go.WideShapes Go.ChangeAt
theorem z6x {P:Program} {w:World} {r:Reach} {base:Nat} {u:TypeId} {v:Value} (hu:P.underlying u=some .bool) (h:Cell.okWide P w r base u v) : ∃ b,v = .bool b:=by
 cases v <;> simp [Cell.okWide,Cell.ok,hu] at h
 exact ⟨_,rfl⟩
theorem z5k {P:Program} {w:World} {r:Reach} {base:Nat} {t:TypeId} {v:Value} {ts:List TypeId} {n:Nat} (hu:(match P.underlying t with|some (.struct _)|some (.array _ _)=>true|_=>false)=true) (hts:P.cellTypes P.depth t=some ts) (hn:P.cellsOf t=n) (hl:ts.length=n)
  (h:Value.okWide P w r base t v) : ∃ cs,v = .agg cs∧cs.size=n ∧ ∀ (i:Nat) x u,cs[i]? = some x→ts[i]? = some u→Cell.okWide P w r base u x:=by
 unfold Value.okWide at h
 have h' : ∃ cs,v = .agg cs∧cs.size=P.cellsOf t∧Row.okWide P w r base t cs:=by
  revert h hu
  cases P.underlying t with
  | none=>intro hu;simp at hu
  | some d=>cases d <;> intro hu <;> first|(simp at hu;done)|exact fun h=>h
 obtain ⟨cs,rfl,hs,ts',hts',_,hc⟩:=h'
 rw [hts] at hts'
 obtain rfl:ts=ts':=Option.some.inj hts'
 refine ⟨cs,rfl,hs.trans hn,fun i x u hx hi=>?_⟩
 obtain ⟨u',hu',hok⟩:=hc i x hx
 have hlt:i<n:=by
  have:=(List.getElem?_eq_some_iff.1 hi).1
  omega
 rw [Nat.mod_eq_of_lt (by omega),hi] at hu'
 obtain rfl:u=u':=Option.some.inj hu'
 exact hok
variable {H:Type} {enc:TypeId × Value→H} {W:World} {base:Nat} {spare:Nat→Bool} {held:Bool}
theorem z1a {r:Reach} {v:Value} (hval:Value.okWide Try.prog W r base 3 v) : ∃ x:Int,IntKind.i64.has x∧v = .int .i64 x:=by
 unfold Value.okWide at hval
 rw [show Try.prog.underlying 3=some (.int .i64) by kernel_rfl] at hval
 cases v <;> simp [Cell.okWide,Cell.ok,show Try.prog.underlying 3=some (.int .i64) by kernel_rfl] at hval
 rename_i k n
 obtain ⟨rfl,h⟩:=hval
 exact ⟨n,h,rfl⟩
variable {H:Type} {enc:TypeId × Value→H} {W:World} {base:Nat}
theorem z4h {r:Reach} {v:Value} {d:DataW H} {p:List MemPlace} (hval:Value.okWide Try.prog W r base 26 v)
  (h:DataW.Trod enc Try.prog W 0 (fun _=>true) true 26 v d p) : ∃ (o:Bool) (ev:List Int),AR 0 (fun _=>False) z3Q W (rsnA o ev) v:=by
 obtain ⟨cs,rfl,hs,hc⟩:=z5k (n := 2) (ts := [4,24]) (by kernel_rfl) (by kernel_rfl) (by kernel_rfl) rfl hval
 obtain ⟨l⟩:=cs
 match l,hs with
 | [x0,x1],_ =>
  obtain ⟨o,rfl⟩:=z6x (by kernel_rfl) (hc 0 x0 4 rfl rfl)
  obtain ⟨fuel,h⟩:=h
  obtain ⟨xs,m,_,_,hl,hx,hf⟩:=DataW.trod_struct (P:=Try.prog) (t := 26) rfl h
  have hx' : xs.length=2:=hx
  have f1:=hf 1 _ rfl
  rw [List.getElem?_eq_getElem (by omega)] at f1
  have hci:Try.prog.cellsOf 24=1:=by kernel_rfl
  obtain ⟨ev,v,e,hp⟩:=sl_pr (e := 3) (n := 1) (g:=fun x:Int => [PV.val (.int .i64 x)]) (by kernel_rfl) (by kernel_rfl) (fun _=>rfl) (by omega) (fun m cs y h=>by
   obtain ⟨x,rfl⟩:=z1L h
   exact ⟨x,.cons (.val _ rfl) .nil⟩) f1
  change List.take (Try.prog.cellsOf 24) [x1] = [v] at e
  rw [hci] at e
  simp only [List.take_succ_cons,List.take_zero,List.cons.injEq,and_true] at e
  subst e
  refine ⟨o,ev,.agg _ _ rfl (fun j x hj=>?_) (fun j hj=>?_)⟩
  ·match j,hj with
   | 0,hj=>cases hj;exact .p _ _ (.val _ rfl)
   | 1,hj=>cases hj;exact .p _ _ hp
  ·match j,hj with
   | 0,_=>rfl
   | 1,_=>exact hp.one
end Go.Proofs.Ytdlgoofjechocaa
namespace Go.Proofs.Ytdlgoofjechocaa
open Go.RowKit Go.Sort
theorem zs_get {r:List Nat} {k n:Nat} (h:r[k]? = some n):(zs r)[k]? = some (n:Int):=by rw [zs,List.getElem?_map,h];rfl
theorem z8N (l:List Ev) (i j:Int) (o:Bool) (ev:List Int):zq Try.prog 8 [.p (.seq 9 (l.map evC)),.int i,.int j,rsnA o ev] (.bool true):=by
 have hw:=z4P
 have hlm:(l.map evC).length=l.length:=by simp
 have hzl:=z1A ev
 refine zq.of Try.func8 rfl 98 rfl (by decide) (by simp [AV.okB,rsnA]) ?_
 simp only [rsnA]
 by_cases hn:l.length≤40
 ·have hg:decide ((40:Int)<(l.length:Int))=false:=by simp;omega
  by_cases he:ev.length≤60
  ·have hge:decide ((60:Int)<(ev.length:Int))=false:=by simp;omega
   have h1:=z7X l i j o ev (by omega) (by omega)
   have h2:=z1C l i j (by omega)
   cases hB:chkB l i j o ev with
   | false =>
    rw [hB] at h1
    simp only [rsnA] at h1
    repeat' (first|refine T.zh fun K hK=>?_|refine T.block ?_|(refine T.reg (by kernel_rfl) fun K' hK'=>?_;simp only [bz];(repeat' (first|(with_reducible refine WL.fin ?_;refine hK' _ ?_;clear hK' K')|((with_reducible refine WL.step fun K2 hK2=>?_);simp only [simprocAttr,implies_true,amz,tys,hlm,hzl,hg,hge,Bool.not_true,Bool.not_false];(repeat' (first|with_reducible (first|(refine hK2 _ ?_;clear hK2 K2)|refine And.intro ?_ ?_|intro hb)|((first|(with_reducible apply zg)|(with_reducible apply zl));case h=>exact CallV.plain (Ent.of Try.func9 (by kernel_rfl) rfl) (hw) (by simp [AV.okB]))|((first|(with_reducible apply zg)|(with_reducible apply zl));case h=>exact CallV.plain (Ent.of Try.func17 (by kernel_rfl) rfl) (h1) (by simp [AV.okB]))))))))|refine T.skip ?_|refine T.exit ?_|refine T.zf rfl ?_|refine T.ze rfl ?_|refine T.cond rfl (fun hc=>?_) (fun hc=>?_)|refine T.ret ?_|simp only [za,z8,reduceIte,Nat.reduceEqDiff]|((repeat ((fail_if_success (refine hK _ ?_));clear hK K));refine hK _ ?_;clear hK K))
    all_goals (refine zy.ret (.inr rfl) Try.results8 ?_;simp only [zu,zo,zn,simprocAttr,implies_true,amz,tys,])
   | true =>
    have hC:=z9Z.1 hB
    obtain ⟨hp,hko⟩:=hC.exp
    have hinc:=(z3A hp).inc
    have hel:=hC.len
    rw [hB] at h1
    rw [z3b hp,hko] at h2
    simp only [rsnA] at h1
    simp only [rsnN] at h2
    have hall:o=false → ∀ x ∈ expE l i j,(x:Int) ∈ ev:=fun ho=>by subst ho;exact hC.all
    have hev:=hC.inc
    generalize expE l i j=X at h2 hinc hel hall
    have hXl:=qJ X
    have hlt:decide ((ev.length:Int)<(X.length:Int))=false:=decide_eq_false (by omega)
    cases o with
    | true =>
     repeat' (first|refine T.zh fun K hK=>?_|refine T.block ?_|(refine T.reg (by kernel_rfl) fun K' hK'=>?_;simp only [bz];(repeat' (first|(with_reducible refine WL.fin ?_;refine hK' _ ?_;clear hK' K')|((with_reducible refine WL.step fun K2 hK2=>?_);simp only [simprocAttr,implies_true,amz,tys,hlm,hzl,hXl,hlt,hg,hge,bne_self_eq_false,beq_self_eq_true,Bool.not_true,Bool.not_false];(repeat' (first|with_reducible (first|(refine hK2 _ ?_;clear hK2 K2)|refine And.intro ?_ ?_|intro hb)|((first|(with_reducible apply zg)|(with_reducible apply zl));case h=>exact CallV.plain (Ent.of Try.func9 (by kernel_rfl) rfl) (hw) (by simp [AV.okB]))|((first|(with_reducible apply zg)|(with_reducible apply zl));case h=>exact CallV.plain (Ent.of Try.func17 (by kernel_rfl) rfl) (h1) (by simp [AV.okB]))|((first|(with_reducible apply zg)|(with_reducible apply zl));case h=>exact CallV.plain (Ent.of Try.func10 (by kernel_rfl) rfl) (h2) (by simp [AV.okB]))))))))|refine T.skip ?_|refine T.exit ?_|refine T.zf rfl ?_|refine T.ze rfl ?_|refine T.cond rfl (fun hc=>?_) (fun hc=>?_)|refine T.ret ?_|simp only [za,z8,reduceIte,Nat.reduceEqDiff]|((repeat ((fail_if_success (refine hK _ ?_));clear hK K));refine hK _ ?_;clear hK K))
     all_goals (refine zy.ret (.inr rfl) Try.results8 ?_;simp only [zu,zo,zn,simprocAttr,implies_true,amz,tys,])
    | false =>
     repeat' (first|refine T.zh fun K hK=>?_|refine T.block ?_|(refine T.reg (by kernel_rfl) fun K' hK'=>?_;simp only [bz];(repeat' (first|(with_reducible refine WL.fin ?_;refine hK' _ ?_;clear hK' K')|((with_reducible refine WL.step fun K2 hK2=>?_);simp only [simprocAttr,implies_true,amz,tys,hlm,hzl,hXl,hlt,hg,hge,bne_self_eq_false,beq_self_eq_true,Bool.not_true,Bool.not_false];(repeat' (first|with_reducible (first|(refine hK2 _ ?_;clear hK2 K2)|refine And.intro ?_ ?_|intro hb)|((first|(with_reducible apply zg)|(with_reducible apply zl));case h=>exact CallV.plain (Ent.of Try.func9 (by kernel_rfl) rfl) (hw) (by simp [AV.okB]))|((first|(with_reducible apply zg)|(with_reducible apply zl));case h=>exact CallV.plain (Ent.of Try.func17 (by kernel_rfl) rfl) (h1) (by simp [AV.okB]))|((first|(with_reducible apply zg)|(with_reducible apply zl));case h=>exact CallV.plain (Ent.of Try.func10 (by kernel_rfl) rfl) (h2) (by simp [AV.okB]))))))))|refine T.skip ?_|refine T.exit ?_|refine T.zf rfl ?_|refine T.ze rfl ?_|refine T.cond rfl (fun hc=>?_) (fun hc=>?_)|refine T.ret ?_|simp only [za,z8,reduceIte,Nat.reduceEqDiff]|((repeat ((fail_if_success (refine hK _ ?_));clear hK K));refine hK _ ?_;clear hK K))
     clear h1 h2
     have hall:=hall rfl
     refine T.qc (fun p:Nat × Nat=>⟨[(7,.ptr 0 0),(11,.int p.2),(61,.p (.seq 1 (qw X))),(62,.int X.length),(63,.int p.1)],[(0,.boxP none 26 [.bool false,.p (.seq 1 (rowZ ev))])],98,1⟩) (fun p=>p.1≤X.length∧p.2≤ev.length ∧ ∀ a v,a<p.2→ev[a]? = some v → ∀ (b n:Nat),p.1≤b→X[b]? = some n→v<(n:Int)) (fun p=>X.length-p.1) (0,0) ⟨Nat.zero_le _,Nat.zero_le _,fun a v ha=>by simp only at ha;omega⟩ (by refine zk.of' rfl ?_;simp only [wks,reduceIte,Nat.reduceEqDiff,ASt.okB,AV.okB,Nat.reduceLT,implies_true,Int.natCast_zero]) ?_
     rintro ⟨q,k⟩ ⟨hq,hk,hlow⟩ KL hKL
     simp only at hq hk hlow hKL ⊢
     by_cases hqn:q<X.length
     ·have hd:decide ((q:Int)<(X.length:Int))=true:=by simpa using hqn
      have hq0:(0:Int)≤(q:Int):=by omega
      obtain ⟨n,hx⟩:=zT hqn
      have m1:=z3v hx
      have hmem:=hall n (List.mem_of_getElem? hx)
      obtain ⟨c,hc⟩:=List.mem_iff_getElem?.1 hmem
      repeat' (first|refine T.zh fun K hK=>?_|refine T.block ?_|(refine T.reg (by kernel_rfl) fun K' hK'=>?_;simp only [bz];(repeat' (first|(with_reducible refine WL.fin ?_;refine hK' _ ?_;clear hK' K')|((with_reducible refine WL.step fun K2 hK2=>?_);simp only [simprocAttr,implies_true,amz,tys,hd,hq0,Int.toNat_natCast,m1];(repeat' with_reducible (first|(refine hK2 _ ?_;clear hK2 K2)|refine And.intro ?_ ?_|intro hb))))))|refine T.skip ?_|refine T.exit ?_|refine T.zf rfl ?_|refine T.ze rfl ?_|refine T.cond rfl (fun hc=>?_) (fun hc=>?_)|refine T.ret ?_|simp only [za,z8,reduceIte,Nat.reduceEqDiff]|((repeat ((fail_if_success (refine hK _ ?_));clear hK K));refine hK _ ?_;clear hK K))
      refine T.qc (fun k:Nat=>⟨[(7,.ptr 0 0),(11,.int k),(13,.int n),(61,.p (.seq 1 (qw X))),(62,.int X.length),(63,.int q)],[(0,.boxP none 26 [.bool false,.p (.seq 1 (rowZ ev))])],98,1⟩) (fun k=>k≤ev.length ∧ ∀ a v,a<k→ev[a]? = some v → ∀ (b n:Nat),q≤b→X[b]? = some n→v<(n:Int)) (fun k=>ev.length-k) k ⟨hk,hlow⟩ (by refine zk.of' rfl ?_;simp only [wks,reduceIte,Nat.reduceEqDiff,ASt.okB,AV.okB,Nat.reduceLT,implies_true,]) ?_
      rintro p ⟨hp2,hlw⟩ KL2 hKL2
      have hcp:p≤c:=by
       by_cases e:c<p
       ·have:=hlw c _ e hc q n (Nat.le_refl _) hx
        omega
       ·omega
      have hcl:=(List.getElem?_eq_some_iff.1 hc).1
      have hpl:p<ev.length:=by omega
      have hd2:decide ((p:Int)<(ev.length:Int))=true:=by simpa using hpl
      have hp0:(0:Int)≤(p:Int):=by omega
      obtain ⟨v,hv⟩:=zT hpl
      have m2:=qN hv
      by_cases hlt2:v<(n:Int)
      ·have hd3:decide (v<(n:Int))=true:=decide_eq_true hlt2
       repeat' (first|refine T.zh fun K hK=>?_|refine T.block ?_|(refine T.reg (by kernel_rfl) fun K' hK'=>?_;simp only [bz];(repeat' (first|(with_reducible refine WL.fin ?_;refine hK' _ ?_;clear hK' K')|((with_reducible refine WL.step fun K2 hK2=>?_);simp only [simprocAttr,implies_true,amz,tys,hzl,hd2,hp0,Int.toNat_natCast,m2,hd3];(repeat' with_reducible (first|(refine hK2 _ ?_;clear hK2 K2)|refine And.intro ?_ ?_|intro hb))))))|refine T.skip ?_|refine T.exit ?_|refine T.zf rfl ?_|refine T.ze rfl ?_|refine T.cond rfl (fun hc=>?_) (fun hc=>?_)|refine T.ret ?_|simp only [za,z8,reduceIte,Nat.reduceEqDiff]|((repeat ((fail_if_success (refine hK _ ?_));clear hK K));refine hK _ ?_;clear hK K))
       refine hKL2 _ (p+1) ?_ ⟨hpl,fun a w ha hw b m hb hm=>?_⟩ (by omega)
       ·refine zk.of' rfl ?_;simp only [wks,reduceIte,Nat.reduceEqDiff,ASt.okB,AV.okB,Nat.reduceLT,implies_true,zm (show p<1152921504606846976 by omega)]
       ·by_cases e:a=p
        ·subst e
         rw [hv] at hw;cases hw
         by_cases e2:b=q
         ·subst e2;rw [hx] at hm;cases hm;exact hlt2
         ·have h3:=z7t hinc (b-(q+1)) q _ _ (zs_get hx) (by rw [show q+1+(b-(q+1))=b by omega];exact zs_get hm)
          omega
        ·exact hlw a w (by omega) hw b m hb hm
      ·have hd3:decide (v<(n:Int))=false:=decide_eq_false hlt2
       have hcv:p=c:=by
        by_cases e:p=c
        ·exact e
        ·have h3:=z7t hev (c-(p+1)) p _ _ hv (by rw [show p+1+(c-(p+1))=c by omega];exact hc)
         omega
       have hvn:v=(n:Int):=by
        subst hcv
        rw [hv] at hc;cases hc;rfl
       have hd4:((p:Int)==(ev.length:Int))=false:=by rw [beq_eq_false_iff_ne];omega
       have hd5:(v != (n:Int))=false:=by rw [hvn];simp
       repeat' (first|refine T.zh fun K hK=>?_|refine T.block ?_|(refine T.reg (by kernel_rfl) fun K' hK'=>?_;simp only [bz];(repeat' (first|(with_reducible refine WL.fin ?_;refine hK' _ ?_;clear hK' K')|((with_reducible refine WL.step fun K2 hK2=>?_);simp only [simprocAttr,implies_true,amz,tys,hzl,hd2,hp0,Int.toNat_natCast,m2,hd3,hd4,hd5];(repeat' with_reducible (first|(refine hK2 _ ?_;clear hK2 K2)|refine And.intro ?_ ?_|intro hb))))))|refine T.skip ?_|refine T.exit ?_|refine T.zf rfl ?_|refine T.ze rfl ?_|refine T.cond rfl (fun hc=>?_) (fun hc=>?_)|refine T.ret ?_|simp only [za,z8,reduceIte,Nat.reduceEqDiff]|((repeat ((fail_if_success (refine hK _ ?_));clear hK K));refine hK _ ?_;clear hK K))
       refine hKL _ (q+1,p) ?_ ⟨hqn,hp2,fun a w ha hw b m hb hm=>hlw a w ha hw b m (by omega) hm⟩ (by simp only;omega)
       refine zk.of' rfl ?_;simp only [wks,reduceIte,Nat.reduceEqDiff,ASt.okB,AV.okB,Nat.reduceLT,implies_true,zm (show q<1152921504606846976 by omega)]
     ·have hd:decide ((q:Int)<(X.length:Int))=false:=by simpa using hqn
      repeat' (first|refine T.zh fun K hK=>?_|refine T.block ?_|(refine T.reg (by kernel_rfl) fun K' hK'=>?_;simp only [bz];(repeat' (first|(with_reducible refine WL.fin ?_;refine hK' _ ?_;clear hK' K')|((with_reducible refine WL.step fun K2 hK2=>?_);simp only [simprocAttr,implies_true,amz,tys,hd];(repeat' with_reducible (first|(refine hK2 _ ?_;clear hK2 K2)|refine And.intro ?_ ?_|intro hb))))))|refine T.skip ?_|refine T.exit ?_|refine T.zf rfl ?_|refine T.ze rfl ?_|refine T.cond rfl (fun hc=>?_) (fun hc=>?_)|refine T.ret ?_|simp only [za,z8,reduceIte,Nat.reduceEqDiff]|((repeat ((fail_if_success (refine hK _ ?_));clear hK K));refine hK _ ?_;clear hK K))
      all_goals (refine zy.ret (.inr rfl) Try.results8 ?_;simp only [zu,zo,zn,simprocAttr,implies_true,amz,tys,])
  ·have hge:decide ((60:Int)<(ev.length:Int))=true:=by simp;omega
   repeat' (first|refine T.zh fun K hK=>?_|refine T.block ?_|(refine T.reg (by kernel_rfl) fun K' hK'=>?_;simp only [bz];(repeat' (first|(with_reducible refine WL.fin ?_;refine hK' _ ?_;clear hK' K')|((with_reducible refine WL.step fun K2 hK2=>?_);simp only [simprocAttr,implies_true,amz,tys,hlm,hzl,hg,hge,Bool.not_true];(repeat' (first|with_reducible (first|(refine hK2 _ ?_;clear hK2 K2)|refine And.intro ?_ ?_|intro hb)|((first|(with_reducible apply zg)|(with_reducible apply zl));case h=>exact CallV.plain (Ent.of Try.func9 (by kernel_rfl) rfl) (hw) (by simp [AV.okB]))))))))|refine T.skip ?_|refine T.exit ?_|refine T.zf rfl ?_|refine T.ze rfl ?_|refine T.cond rfl (fun hc=>?_) (fun hc=>?_)|refine T.ret ?_|simp only [za,z8,reduceIte,Nat.reduceEqDiff]|((repeat ((fail_if_success (refine hK _ ?_));clear hK K));refine hK _ ?_;clear hK K))
   all_goals (refine zy.ret (.inr rfl) Try.results8 ?_;simp only [zu,zo,zn,simprocAttr,implies_true,amz,tys,])
 ·have hg:decide ((40:Int)<(l.length:Int))=true:=by simp;omega
  repeat' (first|refine T.zh fun K hK=>?_|refine T.block ?_|(refine T.reg (by kernel_rfl) fun K' hK'=>?_;simp only [bz];(repeat' (first|(with_reducible refine WL.fin ?_;refine hK' _ ?_;clear hK' K')|((with_reducible refine WL.step fun K2 hK2=>?_);simp only [simprocAttr,implies_true,amz,tys,hlm,hzl,hg,Bool.not_true];(repeat' (first|with_reducible (first|(refine hK2 _ ?_;clear hK2 K2)|refine And.intro ?_ ?_|intro hb)|((first|(with_reducible apply zg)|(with_reducible apply zl));case h=>exact CallV.plain (Ent.of Try.func9 (by kernel_rfl) rfl) (hw) (by simp [AV.okB]))))))))|refine T.skip ?_|refine T.exit ?_|refine T.zf rfl ?_|refine T.ze rfl ?_|refine T.cond rfl (fun hc=>?_) (fun hc=>?_)|refine T.ret ?_|simp only [za,z8,reduceIte,Nat.reduceEqDiff]|((repeat ((fail_if_success (refine hK _ ?_));clear hK K));refine hK _ ?_;clear hK K))
  all_goals (refine zy.ret (.inr rfl) Try.results8 ?_;simp only [zu,zo,zn,simprocAttr,implies_true,amz,tys,])
end Go.Proofs.Ytdlgoofjechocaa
