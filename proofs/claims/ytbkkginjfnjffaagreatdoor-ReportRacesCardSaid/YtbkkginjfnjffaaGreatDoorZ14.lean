/- Texts Qa, Ta, Tb, Ok, Law, Op, Oq, Or. -/
import Derived.ProofKit
import Derived.HandedShaped
import Derived.Test.YtbkkginjfnjffaaGreatDoorRows
import Derived.OpenShut
import Derived.LaidMore
import Derived.Lay
import Derived.Stop.Joined
import Derived.Lib.LaidTab
import Derived.Deep.DeepHandedRow
import Derived.Test.YtbkkginjfnjffaaGreatDoorZ13
set_option maxHeartbeats 32000000
set_option maxRecDepth 100000
set_option linter.unusedSimpArgs false
set_option linter.unusedVariables false
namespace Go.Proofs.YtbkkginjfnjffaaGreatDoor
open Go.RowKit Go.Sort Go.Maps
def racR (l:List Ev) (i j:Nat):Bool:=confL l i j && !hbM l i j
def z2E (l:List Ev):List (Nat × Nat):=if (z4Z l).2 then prU (racR l) (fun j=>j) l.length else []
theorem racesR_ok (l:List Ev) (hl:l.length≤100000):zt Tryz.prog 5 [.p (.seq 9 (l.map evC))] (.p (.seq 2 (rowQ (z2E l)))):=by
 have hv:=validT_ok l (by omega)
 cases h5:(z4Z l).2 with
 | false =>
  rw [h5] at hv
  have hr:z2E l = []:=by simp [z2E,h5]
  refine zt.of Tryz.func5 rfl 49 rfl (by decide) (by simp [AV.okB]) ?_
  repeat' (first|refine T.zk fun K hK=>?_|apply T.block|(refine T.reg (by kernel_rfl) fun K' hK'=>?_;simp only [bz];(repeat' (first|(with_reducible refine WL.fin ?_;apply hK';clear hK' K')|((with_reducible refine WL.step fun K2 hK2=>?_);simp only [simprocAttr,implies_true,amz,zf,tys];(repeat' (first|with_reducible (first|(apply hK2;clear hK2 K2)|apply And.intro|intro hb)|((with_reducible first|apply zl|apply zn);case h=>exact CallV.plain (Ent.of Tryz.func10 (by kernel_rfl) rfl) (hv) (by simp [AV.okB]))))))))|apply T.skip|apply T.exit|refine T.zh rfl ?_|refine T.zg rfl ?_|refine T.cond rfl (fun hc=>?_) (fun hc=>?_)|apply T.ret|simp only [ze,z8,reduceIte,Nat.reduceEqDiff]|((repeat ((fail_if_success apply hK);clear hK K));apply hK;clear hK K))
  refine zP.retW (.inr rfl) Tryz.results5 (s':=⟨[(2,.p (.seq 2 []))],[],49,0⟩) (by refine zi.of' rfl ?_;simp only [wks,reduceIte,Nat.reduceEqDiff,ASt.okB,AV.okB,Nat.reduceLT,implies_true,]) ?_
  rw [hr];simp only [zI,zu,zw,nilQ,simprocAttr,implies_true,amz,zf,tys]
 | true =>
  rw [h5] at hv
  have hc:zt Tryz.prog 11 [.p (.seq 9 (l.map evC))] (.p (.seq 1 ((matR l.length (hbM l)).map fun r => [.seq 1 r]))):=z7s l (by omega)
  have hr:z2E l=prU (racR l) (fun j=>j) l.length:=by simp [z2E,h5]
  rw [hr]
  obtain ⟨n,hn⟩ : ∃ n,n=l.length:=⟨_,rfl⟩
  rw [← hn] at hc ⊢
  refine zt.of Tryz.func5 rfl 49 rfl (by decide) (by simp [AV.okB]) ?_
  repeat' (first|refine T.zk fun K hK=>?_|apply T.block|(refine T.reg (by kernel_rfl) fun K' hK'=>?_;simp only [bz];(repeat' (first|(with_reducible refine WL.fin ?_;apply hK';clear hK' K')|((with_reducible refine WL.step fun K2 hK2=>?_);simp only [simprocAttr,implies_true,amz,zf,tys,← hn];(repeat' (first|with_reducible (first|(apply hK2;clear hK2 K2)|apply And.intro|intro hb)|((with_reducible first|apply zl|apply zn);case h=>exact CallV.plain (Ent.of Tryz.func10 (by kernel_rfl) rfl) (hv) (by simp [AV.okB]))|((with_reducible first|apply zl|apply zn);case h=>exact CallV.plain (Ent.of Tryz.func11 (by kernel_rfl) rfl) (hc) (by simp [AV.okB]))))))))|apply T.skip|apply T.exit|refine T.zh rfl ?_|refine T.zg rfl ?_|refine T.cond rfl (fun hc=>?_) (fun hc=>?_)|apply T.ret|simp only [ze,z8,reduceIte,Nat.reduceEqDiff]|((repeat ((fail_if_success apply hK);clear hK K));apply hK;clear hK K))
  refine T.weak (zi.z3p _ 4 45 2 (show 4<49 by decide) rfl) ?_;simp only [ASt.add,z07,Nat.reduceAdd]
  refine T.z02 (fun j:Nat=>⟨[(0,.p (.seq 9 (l.map evC))),(3,.p (.seq 1 ((matR n (hbM l)).map fun r => [PV.seq 1 r]))),(4,.own 0),(5,.int j)],[(0,.row 45 2 (rowQ (prU (racR l) (fun j=>j) j)))],49,1⟩) (fun j=>j≤n) (fun j=>n-j) 0 (Nat.zero_le _) (by refine zi.of' rfl ?_;simp only [wks,reduceIte,Nat.reduceEqDiff,ASt.okB,AV.okB,Nat.reduceLT,implies_true,Int.natCast_zero,prU,nilQ]) ?_
  intro j hj KL hKL
  by_cases hjn:j<n
  ·have hd:decide ((j:Int)<(n:Int))=true:=by simpa using hjn
   obtain ⟨y,hy⟩:=qA (show j<l.length by omega)
   repeat' (first|refine T.zk fun K hK=>?_|apply T.block|(refine T.reg (by kernel_rfl) fun K' hK'=>?_;simp only [bz];(with_reducible repeat' (first|(apply WL.fin;apply hK';clear hK' K')|(refine WL.step fun K2 hK2=>?_;simp only [simprocAttr,implies_true,amz,zf,tys,hd,← hn];repeat' (first|(apply hK2;clear hK2 K2)|apply And.intro|intro hb)))))|apply T.skip|apply T.exit|refine T.zh rfl ?_|refine T.zg rfl ?_|refine T.cond rfl (fun hc=>?_) (fun hc=>?_)|apply T.ret|simp only [ze,z8,reduceIte,Nat.reduceEqDiff]|((repeat ((fail_if_success apply hK);clear hK K));apply hK;clear hK K))
   refine T.z02 (fun k:Nat=>⟨[(0,.p (.seq 9 (l.map evC))),(3,.p (.seq 1 ((matR n (hbM l)).map fun r => [PV.seq 1 r]))),(4,.own 0),(5,.int j),(6,.int k)],[(0,.row 45 2 (rowQ (prU (racR l) (fun j=>j) j++prJ (racR l) j k)))],49,1⟩) (fun k=>k≤j) (fun k=>j-k) 0 (Nat.zero_le _) (by refine zi.of' rfl ?_;simp only [wks,reduceIte,Nat.reduceEqDiff,ASt.okB,AV.okB,Nat.reduceLT,implies_true,Int.natCast_zero,prJ_zero,List.append_nil]) ?_
   intro k hk KL2 hKL2
   by_cases hkj:k<j
   ·have hd2:decide ((k:Int)<(j:Int))=true:=by simpa using hkj
    obtain ⟨x,hx⟩:=qA (show k<l.length by omega)
    have hcf:=z3K x y
    rw [← z7I hx hy] at hcf
    simp only [evA,evC,yl] at hcf
    have m1:=z3z (hbM l) (show k<n by omega)
    have m2:=z2Q (hbM l k) hjn
    obtain ⟨r,hr2⟩ : ∃ r,r=prU (racR l) (fun j=>j) j++prJ (racR l) j k:=⟨_,rfl⟩
    have hrl:r.length≤100000*100000+100000:=by
     rw [hr2,List.length_append]
     have q1:=prU_len (racR l) (fun j=>j) n (fun _=>Nat.le_succ _) j (by omega)
     have q2:=z7r (racR l) j k
     have q3:j*n≤100000*100000:=Nat.mul_le_mul (by omega) (by omega)
     omega
    have hm0 : 1≤maxLen:=by unfold maxLen;omega
    have hm1:r.length+1≤maxLen:=by unfold maxLen;omega
    have hm2:(r.length+1)*16≤140737488355328:=by omega
    have hnext:prU (racR l) (fun j=>j) j++prJ (racR l) j (k+1)=r++if racR l k j then [(k,j)] else []:=by rw [prJ_succ,← List.append_assoc,hr2]
    have hsn:=rowQ_snoc r (k,j)
    rw [← hr2]
    cases hcl:confL l k j with
    | false =>
     rw [hcl] at hcf
     have hp:racR l k j=false:=by simp [racR,hcl]
     repeat' (first|refine T.zk fun K hK=>?_|apply T.block|(refine T.reg (by kernel_rfl) fun K' hK'=>?_;simp only [bz];(with_reducible repeat' (first|(apply WL.fin;apply hK';clear hK' K')|(refine WL.step fun K2 hK2=>?_;simp only [simprocAttr,implies_true,amz,zf,tys,hd2];repeat' (first|(apply hK2;clear hK2 K2)|apply And.intro|intro hb)))))|apply T.skip|apply T.exit|refine T.zh rfl ?_|refine T.zg rfl ?_|refine T.cond rfl (fun hc=>?_) (fun hc=>?_)|apply T.ret|simp only [ze,z8,reduceIte,Nat.reduceEqDiff]|((repeat ((fail_if_success apply hK);clear hK K));apply hK;clear hK K))
     refine T.drw 15 (by kernel_rfl) (by kernel_rfl) fun K' hK'=>?_;simp only [yl];(repeat' (first|(with_reducible refine WL.fin ?_;apply hK';clear hK' K')|(with_reducible refine WD.fin ?_)|((with_reducible first|refine WL.step fun K2 hK2=>?_|refine WD.step fun K2 hK2=>?_);simp only [simprocAttr,implies_true,amz,zf,tys,hx,hy,evC,m1,m2,bvC];(repeat' (first|with_reducible (first|(apply hK2;clear hK2 K2)|apply And.intro|intro hb)|((with_reducible first|apply zl|apply zn);case h=>exact CallV.plain (Ent.of Tryz.func12 (by kernel_rfl) rfl) (hcf) (by simp [AV.okB])))))));all_goals ((try simp only [ze,z8,reduceIte,Nat.reduceEqDiff]);(try ((repeat ((fail_if_success apply hK);clear hK K));apply hK;clear hK K)))
     all_goals repeat' (first|refine T.zk fun K hK=>?_|apply T.block|(refine T.reg (by kernel_rfl) fun K' hK'=>?_;simp only [bz];(with_reducible repeat' (first|(apply WL.fin;apply hK';clear hK' K')|(refine WL.step fun K2 hK2=>?_;simp only [simprocAttr,implies_true,amz,zf,tys];repeat' (first|(apply hK2;clear hK2 K2)|apply And.intro|intro hb)))))|apply T.skip|apply T.exit|refine T.zh rfl ?_|refine T.zg rfl ?_|refine T.cond rfl (fun hc=>?_) (fun hc=>?_)|apply T.ret|simp only [ze,z8,reduceIte,Nat.reduceEqDiff]|((repeat ((fail_if_success apply hK);clear hK K));apply hK;clear hK K))
     refine hKL2 _ (k+1) ?_ (by omega) (by omega)
     rw [hnext,hp,if_neg (by simp),List.append_nil]
     refine zi.of' rfl ?_;simp only [wks,reduceIte,Nat.reduceEqDiff,ASt.okB,AV.okB,Nat.reduceLT,implies_true,zx (show k<1152921504606846976 by omega)]
    | true =>
     rw [hcl] at hcf
     cases hv2:hbM l k j with
     | true =>
      rw [hv2] at m2
      have hp:racR l k j=false:=by simp [racR,hv2]
      repeat' (first|refine T.zk fun K hK=>?_|apply T.block|(refine T.reg (by kernel_rfl) fun K' hK'=>?_;simp only [bz];(with_reducible repeat' (first|(apply WL.fin;apply hK';clear hK' K')|(refine WL.step fun K2 hK2=>?_;simp only [simprocAttr,implies_true,amz,zf,tys,hd2];repeat' (first|(apply hK2;clear hK2 K2)|apply And.intro|intro hb)))))|apply T.skip|apply T.exit|refine T.zh rfl ?_|refine T.zg rfl ?_|refine T.cond rfl (fun hc=>?_) (fun hc=>?_)|apply T.ret|simp only [ze,z8,reduceIte,Nat.reduceEqDiff]|((repeat ((fail_if_success apply hK);clear hK K));apply hK;clear hK K))
      refine T.drw 15 (by kernel_rfl) (by kernel_rfl) fun K' hK'=>?_;simp only [yl];(repeat' (first|(with_reducible refine WL.fin ?_;apply hK';clear hK' K')|(with_reducible refine WD.fin ?_)|((with_reducible first|refine WL.step fun K2 hK2=>?_|refine WD.step fun K2 hK2=>?_);simp only [simprocAttr,implies_true,amz,zf,tys,hx,hy,evC,m1,m2,bvC];(repeat' (first|with_reducible (first|(apply hK2;clear hK2 K2)|apply And.intro|intro hb)|((with_reducible first|apply zl|apply zn);case h=>exact CallV.plain (Ent.of Tryz.func12 (by kernel_rfl) rfl) (hcf) (by simp [AV.okB])))))));all_goals ((try simp only [ze,z8,reduceIte,Nat.reduceEqDiff]);(try ((repeat ((fail_if_success apply hK);clear hK K));apply hK;clear hK K)))
      all_goals repeat' (first|refine T.zk fun K hK=>?_|apply T.block|(refine T.reg (by kernel_rfl) fun K' hK'=>?_;simp only [bz];(with_reducible repeat' (first|(apply WL.fin;apply hK';clear hK' K')|(refine WL.step fun K2 hK2=>?_;simp only [simprocAttr,implies_true,amz,zf,tys];repeat' (first|(apply hK2;clear hK2 K2)|apply And.intro|intro hb)))))|apply T.skip|apply T.exit|refine T.zh rfl ?_|refine T.zg rfl ?_|refine T.cond rfl (fun hc=>?_) (fun hc=>?_)|apply T.ret|simp only [ze,z8,reduceIte,Nat.reduceEqDiff]|((repeat ((fail_if_success apply hK);clear hK K));apply hK;clear hK K))
      refine hKL2 _ (k+1) ?_ (by omega) (by omega)
      rw [hnext,hp,if_neg (by simp),List.append_nil]
      refine zi.of' rfl ?_;simp only [wks,reduceIte,Nat.reduceEqDiff,ASt.okB,AV.okB,Nat.reduceLT,implies_true,zx (show k<1152921504606846976 by omega)]
     | false =>
      rw [hv2] at m2
      have hp:racR l k j=true:=by simp [racR,hv2,hcl]
      repeat' (first|refine T.zk fun K hK=>?_|apply T.block|(refine T.reg (by kernel_rfl) fun K' hK'=>?_;simp only [bz];(with_reducible repeat' (first|(apply WL.fin;apply hK';clear hK' K')|(refine WL.step fun K2 hK2=>?_;simp only [simprocAttr,implies_true,amz,zf,tys,hd2];repeat' (first|(apply hK2;clear hK2 K2)|apply And.intro|intro hb)))))|apply T.skip|apply T.exit|refine T.zh rfl ?_|refine T.zg rfl ?_|refine T.cond rfl (fun hc=>?_) (fun hc=>?_)|apply T.ret|simp only [ze,z8,reduceIte,Nat.reduceEqDiff]|((repeat ((fail_if_success apply hK);clear hK K));apply hK;clear hK K))
      refine T.drw 15 (by kernel_rfl) (by kernel_rfl) fun K' hK'=>?_;simp only [yl];(repeat' (first|(with_reducible refine WL.fin ?_;apply hK';clear hK' K')|(with_reducible refine WD.fin ?_)|((with_reducible first|refine WL.step fun K2 hK2=>?_|refine WD.step fun K2 hK2=>?_);simp only [simprocAttr,implies_true,amz,zf,tys,hx,hy,evC,m1,m2,bvC];(repeat' (first|with_reducible (first|(apply hK2;clear hK2 K2)|apply And.intro|intro hb)|((with_reducible first|apply zl|apply zn);case h=>exact CallV.plain (Ent.of Tryz.func12 (by kernel_rfl) rfl) (hcf) (by simp [AV.okB])))))));all_goals ((try simp only [ze,z8,reduceIte,Nat.reduceEqDiff]);(try ((repeat ((fail_if_success apply hK);clear hK K));apply hK;clear hK K)))
      all_goals repeat' (first|refine T.zk fun K hK=>?_|apply T.block|(refine T.reg (by kernel_rfl) fun K' hK'=>?_;simp only [bz];(with_reducible repeat' (first|(apply WL.fin;apply hK';clear hK' K')|(refine WL.step fun K2 hK2=>?_;simp only [simprocAttr,implies_true,amz,zf,tys,hm0,hm1,hm2,rowQ_len];repeat' (first|(apply hK2;clear hK2 K2)|apply And.intro|intro hb)))))|apply T.skip|apply T.exit|refine T.zh rfl ?_|refine T.zg rfl ?_|refine T.cond rfl (fun hc=>?_) (fun hc=>?_)|apply T.ret|simp only [ze,z8,reduceIte,Nat.reduceEqDiff]|((repeat ((fail_if_success apply hK);clear hK K));apply hK;clear hK K))
      refine hKL2 _ (k+1) ?_ (by omega) (by omega)
      rw [hnext,hp,if_pos rfl,← hsn]
      refine zi.of' rfl ?_;simp only [wks,reduceIte,Nat.reduceEqDiff,ASt.okB,AV.okB,Nat.reduceLT,implies_true,zx (show k<1152921504606846976 by omega)]
   ·have hd2:decide ((k:Int)<(j:Int))=false:=by simpa using hkj
    have hke:k=j:=by omega
    subst hke
    repeat' (first|refine T.zk fun K hK=>?_|apply T.block|(refine T.reg (by kernel_rfl) fun K' hK'=>?_;simp only [bz];(with_reducible repeat' (first|(apply WL.fin;apply hK';clear hK' K')|(refine WL.step fun K2 hK2=>?_;simp only [simprocAttr,implies_true,amz,zf,tys,hd2];repeat' (first|(apply hK2;clear hK2 K2)|apply And.intro|intro hb)))))|apply T.skip|apply T.exit|refine T.zh rfl ?_|refine T.zg rfl ?_|refine T.cond rfl (fun hc=>?_) (fun hc=>?_)|apply T.ret|simp only [ze,z8,reduceIte,Nat.reduceEqDiff]|((repeat ((fail_if_success apply hK);clear hK K));apply hK;clear hK K))
    refine hKL _ (k+1) ?_ (by omega) (by omega)
    rw [prU]
    refine zi.of' rfl ?_;simp only [wks,reduceIte,Nat.reduceEqDiff,ASt.okB,AV.okB,Nat.reduceLT,implies_true,zx (show k<1152921504606846976 by omega)]
  ·have hd:decide ((j:Int)<(n:Int))=false:=by simpa using hjn
   have hje:n=j:=by omega
   subst hje
   repeat' (first|refine T.zk fun K hK=>?_|apply T.block|(refine T.reg (by kernel_rfl) fun K' hK'=>?_;simp only [bz];(with_reducible repeat' (first|(apply WL.fin;apply hK';clear hK' K')|(refine WL.step fun K2 hK2=>?_;simp only [simprocAttr,implies_true,amz,zf,tys,hd,← hn];repeat' (first|(apply hK2;clear hK2 K2)|apply And.intro|intro hb)))))|apply T.skip|apply T.exit|refine T.zh rfl ?_|refine T.zg rfl ?_|refine T.cond rfl (fun hc=>?_) (fun hc=>?_)|apply T.ret|simp only [ze,z8,reduceIte,Nat.reduceEqDiff]|((repeat ((fail_if_success apply hK);clear hK K));apply hK;clear hK K))
   refine zP.retW (.inr rfl) Tryz.results5 (zi.frz _ 0) ?_;simp only [zI,zu,zw,ASt.frz,ASt.subst,AO.z2j,AO.z2X,AO.z2T,AO.z2W,AO.z1h,AV.z6N,AV.z2S,AV.z2V,AV.z1M,AV.z2U,AV.z1L,AV.z1K,AV.z1J,AV.z3s,AV.z1N,List.filter_cons,List.filter_nil,bne_self_eq_false,Nat.reduceBneDiff,Nat.reduceEqDiff,Bool.false_eq_true,simprocAttr,implies_true,amz,zf,tys]
end Go.Proofs.YtbkkginjfnjffaaGreatDoor
namespace Go.Proofs.YtbkkginjfnjffaaGreatDoor
open Go.RowKit Go.Sort
theorem cnt_cons (key:Rc→List Int) (k:List Int) (r:Rc) (rs:List Rc):cntF key k (r :: rs)=(if key r=k then 1 else 0)+cntF key k rs:=by
 unfold cntF
 by_cases h:key r=k
 ·rw [List.filter_cons_of_pos (by simpa using h),if_pos h,List.length_cons];omega
 ·rw [List.filter_cons_of_neg (by simpa using h),if_neg h];omega
theorem one_sum (x:List Int) : ∀ ks:List (List Int),ks.Nodup→(ks.map fun k=>if x=k then 1 else 0).sum=if x ∈ ks then 1 else 0
 | [],_=>rfl
 | k :: ks,h=>by
  obtain ⟨h1,h2⟩:=List.nodup_cons.1 h
  have ih:=one_sum x ks h2
  rw [List.map_cons,List.sum_cons,ih]
  by_cases e:x=k
  ·subst e
   rw [if_pos rfl,if_neg h1,if_pos List.mem_cons_self]
  ·rw [if_neg e,Nat.zero_add]
   by_cases hm:x ∈ ks
   ·rw [if_pos hm,if_pos (List.mem_cons_of_mem _ hm)]
   ·rw [if_neg hm,if_neg (fun h=>(List.mem_cons.1 h).elim e hm)]
theorem add_sum {α:Type} (f g : α→Nat) : ∀ ks:List α,(ks.map fun k=>f k+g k).sum=(ks.map f).sum+(ks.map g).sum
 | []=>rfl
 | k :: ks=>by
  have ih:=add_sum f g ks
  simp only [List.map_cons,List.sum_cons,ih]
  omega
theorem cnt_sum (key:Rc→List Int) (ks:List (List Int)) (hd:ks.Nodup) : ∀ rs:List Rc,(∀ r ∈ rs,key r ∈ ks)→(ks.map fun k=>cntF key k rs).sum=rs.length
 | [],_=>by
  have:(ks.map fun k=>cntF key k ([] : List Rc))=ks.map fun _ => 0:=List.map_congr_left fun k _=>rfl
  rw [this]
  clear this hd
  induction ks with
  | nil=>rfl
  | cons k ks ih=>rw [List.map_cons,List.sum_cons,ih (fun r hr=>by cases hr)];rfl
 | r :: rs,h=>by
  have e:(ks.map fun k=>cntF key k (r :: rs))=ks.map fun k=>(if key r=k then 1 else 0)+cntF key k rs:=List.map_congr_left fun k _=>cnt_cons key k r rs
  rw [e,add_sum,one_sum _ _ hd,cnt_sum key ks hd rs (fun x hx=>h x (List.mem_cons_of_mem _ hx)),if_pos (h r List.mem_cons_self),List.length_cons]
  omega
theorem z6u : ∀ {a:List (List Int)},LxS a→a.Nodup
 | [],_=>List.nodup_nil
 | x :: a,h=>by
  obtain ⟨h1,h2⟩:=List.pairwise_cons.1 h
  refine List.nodup_cons.2 ⟨fun hx=>?_,z6u h2⟩
  have:=h1 x hx
  rw [z3y] at this
  cases this
def sumC:List Rep→Int
 | [] => 0
 | x :: o=>x.cnt+sumC o
theorem z6O (x:Rep) : ∀ o:List Rep,sumC (o ++ [x])=sumC o+x.cnt
 | []=>by simp [sumC]
 | y :: o=>by
  have:=z6O x o
  rw [List.cons_append,sumC,this,sumC]
  omega
theorem sumC_take {o:List Rep} {k:Nat} {x:Rep} (h:o[k]? = some x):sumC (o.take (k+1))=sumC (o.take k)+x.cnt:=by
 rw [List.take_add_one,h,Option.toList_some,z6O]
theorem sumC_le {n:Nat} : ∀ {o:List Rep},(∀ x ∈ o,0≤x.cnt∧x.cnt≤n) → 0≤sumC o∧sumC o≤o.length*n
 | [],_=>by simp [sumC]
 | x :: o,h=>by
  have h1:=h x List.mem_cons_self
  have h2:=sumC_le (n:=n) (o:=o) fun y hy=>h y (List.mem_cons_of_mem _ hy)
  rw [sumC,List.length_cons,Int.natCast_add,Int.add_mul,Int.natCast_one,Int.one_mul]
  omega
theorem z8n (f:List Int→Rep) (g:List Int→Nat) : ∀ ks:List (List Int),(∀ k ∈ ks,(f k).cnt=g k)→sumC (ks.map f)=((ks.map g).sum:Nat)
 | [],_=>rfl
 | k :: ks,h=>by
  have h1:=h k List.mem_cons_self
  have h2:=z8n f g ks fun x hx=>h x (List.mem_cons_of_mem _ hx)
  rw [List.map_cons,sumC,h1,h2,List.map_cons,List.sum_cons,Int.natCast_add]
theorem out_sum (l:List Ev) (ss:List P2) (ps:List Int) (rs:List P2) (h:okM l ss ps rs=true):sumC (outM l ss ps rs)=rs.length:=by
 have hs:LxS (z0Y (rs.map (keyR l))):=z6p (n := 6) z3x
 rw [outM,if_pos h,outR,z8n _ (fun k=>cntF (keyR l) k rs),cnt_sum (keyR l) _ (z6u hs) rs]
 ·intro r hr
  rw [z0A (n := 6) z3x]
  exact List.mem_map_of_mem hr
 ·intro k hk
  rw [z0A (n := 6) z3x] at hk
  obtain ⟨r,c,hrc⟩:=z4q hk
  have h4:=((fnd_ok (keyR l) k rs).some r c hrc).2.2.2
  unfold repK
  rw [hrc]
  exact h4
def zE (e:Ev):Ev := { e with st := 0 }
def mixZ (l:List Ev) (k:Nat):List Ev:=(l.take k).map zE++l.drop k
theorem mixZ_len (l:List Ev) (k:Nat):(mixZ l k).length=l.length:=by simp only [mixZ,List.length_append,List.length_map,List.length_take,List.length_drop];omega
theorem mixZ_end (l:List Ev):mixZ l l.length=l.map zE:=by simp [mixZ]
theorem mixZ_zero (l:List Ev):mixZ l 0=l:=by simp [mixZ]
theorem mixZ_at {l:List Ev} {k:Nat} {x:Ev} (h:l[k]? = some x):(mixZ l k)[k]? = some x:=by
 have hk:=(List.getElem?_eq_some_iff.1 h).1
 rw [mixZ,List.getElem?_append_right (by simp;omega),List.length_map,List.length_take,List.getElem?_drop,show k+(k-min k l.length)=k by omega,h]
theorem mixZ_set {l:List Ev} {k:Nat} {x:Ev} (h:l[k]? = some x):(mixZ l k).set k (zE x)=mixZ l (k+1):=by
 have hk:=(List.getElem?_eq_some_iff.1 h).1
 have h1:((l.take k).map zE).length=k:=by simp;omega
 unfold mixZ
 rw [drop_at h,List.set_append_right _ _ (by omega),h1,Nat.sub_self,List.set_cons_zero,List.take_add_one,h,Option.toList_some,List.map_append,List.append_assoc]
 rfl
theorem mixZ_rows {l:List Ev} {k:Nat} {x:Ev} (h:l[k]? = some x):((mixZ l k).map evC).set k [.val (.int .i64 x.g),.val (.int .i64 x.kind),.val (.int .i64 x.obj),.val (.int .i64 x.off),.val (.int .i64 x.k),.val (.int .i64 x.n),.val (.int .i64 x.fn),.val (.int .i64 x.pc),.val (.int .i64 0)]=(mixZ l (k+1)).map evC:=by
 rw [← mixZ_set h,List.map_set];rfl
def rcZ (r:Nat × Nat):P2:=((r.1:Int),(r.2:Int))
theorem rowQ_P (r:List (Nat × Nat)):rowQ r=rowP (r.map rcZ):=by simp [rowQ,rowP,raC,rcZ]
theorem prJ_mem {p:Nat→Nat→Bool} {j k:Nat} {r:Nat × Nat} (h:r ∈ prJ p j k):r.2=j∧r.1<k∧p r.1 j=true:=by
 obtain ⟨i,hi,rfl⟩:=List.mem_map.1 h
 obtain ⟨h1,h2⟩:=List.mem_filter.1 hi
 exact ⟨rfl,List.mem_range.1 h1,h2⟩
theorem prU_mem {p:Nat→Nat→Bool} {b:Nat→Nat} {r:Nat × Nat} : ∀ {n:Nat},r ∈ prU p b n→r.2<n∧r.1<b r.2∧p r.1 r.2=true
 | 0,h=>by simp [prU] at h
 | n+1,h=>by
  rcases List.mem_append.1 h with h|h
  ·obtain ⟨h1,h2⟩:=prU_mem h
   exact ⟨by omega,h2⟩
  ·obtain ⟨h1,h2,h3⟩:=prJ_mem h
   subst h1
   exact ⟨by omega,h2,h3⟩
theorem z8X {l:List Ev} {r:Nat × Nat} (h:r ∈ z2E l):r.2<l.length∧r.1<r.2∧confL l r.1 r.2=true:=by
 unfold z2E at h
 split at h
 ·obtain ⟨h1,h2,h3⟩:=prU_mem h
  rw [racR,Bool.and_eq_true] at h3
  exact ⟨h1,h2,h3.1⟩
 ·cases h
theorem prU_tri (p:Nat→Nat→Bool) : ∀ n,2*(prU p (fun j=>j) n).length≤n*n
 | 0=>by simp [prU]
 | n+1=>by
  have h1:=prU_tri p n
  have h2:=z7r p n n
  rw [prU,List.length_append,Nat.add_mul,Nat.mul_add,Nat.mul_add]
  omega
theorem z8W {l:List Ev} (hl:l.length≤40):(z2E l).length≤800:=by
 unfold z2E
 split
 ·have h1:=prU_tri (racR l) l.length
  have h2:l.length*l.length≤40*40:=Nat.mul_le_mul hl hl
  omega
 ·simp
def rcsZ (l:List Ev):List P2:=(z2E l).map rcZ
theorem rcsZ_len {l:List Ev} (hl:l.length≤40):(rcsZ l).length≤800:=by
 rw [rcsZ,List.length_map];exact z8W hl
theorem okM_Z {l:List Ev} (hz : ∀ e ∈ l,e.st=0):okM l [(0,0)] [-1] (rcsZ l)=true:=by
 rw [okM,Bool.and_eq_true]
 refine ⟨by decide,?_⟩
 rw [List.all_eq_true]
 intro r hr
 obtain ⟨q,hq,rfl⟩:=List.mem_map.1 hr
 obtain ⟨h1,h2,h3⟩:=z8X hq
 obtain ⟨a,ha⟩:=qA (show q.1<l.length by omega)
 obtain ⟨b,hb⟩:=qA h1
 rw [z7I ha hb] at h3
 have za:=hz a (List.mem_of_getElem? ha)
 have zb:=hz b (List.mem_of_getElem? hb)
 have e1:((q.1:Int)).toNat=q.1:=Int.toNat_natCast _
 have e2:((q.2:Int)).toNat=q.2:=Int.toNat_natCast _
 simp only [accB,rcZ,e1,e2,ha,hb,accE,stB,za,zb,h3,Bool.and_eq_true,decide_eq_true_eq,List.length_cons,List.length_nil,and_true]
 exact ⟨⟨⟨decide_eq_true (by omega),decide_eq_true (by omega)⟩,decide_eq_true (by omega)⟩,⟨trivial,by omega,by omega⟩,by omega,by omega⟩
end Go.Proofs.YtbkkginjfnjffaaGreatDoor
namespace Go.Proofs.YtbkkginjfnjffaaGreatDoor
open Go.RowKit Go.Sort Go.Maps
theorem races_mem (l:List Ev) (hel : ∀ e ∈ l,EvW e):MemC Tryz.prog 3 1000001 hpG [.p (.seq 9 (l.map evC))] fun hp' r'=>hp' = hpG∧r' = .p (.val (.bool true)):=by
 have hA:=z8v
 have hl1:(l.map evC).length=l.length:=by simp
 by_cases hl : 40<l.length
 ·have d1:decide ((40:Int)<(l.length:Int))=true:=by simp;omega
  refine MemC.of Tryz.func3 rfl 77 rfl (by decide) ?_;simp only [z08,frOf]
  simp only [hpG]
  repeat' (first|refine T.zk fun K hK=>?_|apply T.block|(refine T.reg (by kernel_rfl) fun K' hK'=>?_;simp only [bz];(repeat' (first|(with_reducible refine WL.fin ?_;apply hK';clear hK' K')|((with_reducible refine WL.step fun K2 hK2=>?_);simp only [simprocAttr,implies_true,amz,zf,tys,hl1,d1,Bool.not_true,Bool.true_eq_false];(repeat' (first|with_reducible (first|(apply hK2;clear hK2 K2)|apply And.intro|intro hb)|((with_reducible first|apply zl|apply zn);case h=>exact CallV.read 1000001 hpG _ rfl (Ent.of Tryz.func4 (by kernel_rfl) rfl) (hA) (z2P (by decide) (fun t o ho=>by obtain ⟨rfl,rfl⟩:=qZ ho;simp [zq])) (by simp [AV.okB]) rfl)))))))|apply T.skip|apply T.exit|refine T.zh rfl ?_|refine T.zg rfl ?_|refine T.cond rfl (fun hc=>?_) (fun hc=>?_)|apply T.ret|simp only [ze,z8,reduceIte,Nat.reduceEqDiff]|((repeat ((fail_if_success apply hK);clear hK K));apply hK;clear hK K))
  all_goals (refine FinM.ret (s':=⟨[(2,.p (.val (.bool true)))],hpG,77,1000001⟩) (r := .p (.val (.bool true))) (.inr rfl) Tryz.results3 (by refine zi.of' rfl ?_;simp only [wks,reduceIte,Nat.reduceEqDiff,ASt.okB,AV.okB,Nat.reduceLT,implies_true,hpG,zH]) rfl ?_ ?_;(focus (simp only [zI,zu,zw,simprocAttr,implies_true,amz,zf,tys,];done)))
  all_goals exact ⟨rfl,rfl⟩
 ·have d1:decide ((40:Int)<(l.length:Int))=false:=by simp;omega
  have hl2:l.length≤40:=by omega
  have hx1:(l.length≤maxLen)=True:=eq_true (by unfold maxLen;omega)
  have hx2:(l.length*72≤140737488355328)=True:=eq_true (by omega)
  have m1:(1≤maxLen)=True:=eq_true (by unfold maxLen;omega)
  have hzl:(l.map zE).length=l.length:=by simp
  have hzz : ∀ e ∈ l.map zE,e.st=0:=fun e he=>by
   obtain ⟨x,_,rfl⟩:=List.mem_map.1 he;rfl
  have hzw : ∀ e ∈ l.map zE,EvW e:=fun e he=>by
   obtain ⟨x,hx,rfl⟩:=List.mem_map.1 he;have h:=hel x hx;exact ⟨h.1,h.2,h.3⟩
  have hrl:=rcsZ_len (l:=l.map zE) (by omega)
  have hok:=okM_Z hzz
  have hR:=racesR_ok (l.map zE) (by omega)
  rw [rowQ_P] at hR
  have hM:=z6x (l.map zE) hzw [(0,0)] [-1] ⟨by unfold inW;decide,by unfold inW;decide⟩ (by decide) (rcsZ (l.map zE)) (by omega)
  have hN:=mergeR_ok (l.map zE) [(0,0)] [-1] (by decide) (rcsZ (l.map zE)) (by omega)
  have hol:=out_len (l.map zE) [(0,0)] [-1] (rcsZ (l.map zE))
  have hoc:=out_cnt (l.map zE) [(0,0)] [-1] (rcsZ (l.map zE))
  have hsm:=out_sum (l.map zE) [(0,0)] [-1] (rcsZ (l.map zE)) hok
  have hS:=sameL_ok (outM (l.map zE) [(0,0)] [-1] (rcsZ (l.map zE))) (by omega) (fun x hx=>by have:=out_stk (l.map zE) [(0,0)] [-1] (rcsZ (l.map zE)) x hx;simp only [List.length_cons,List.length_nil] at this;omega)
  have he:errM (l.map zE) [(0,0)] [-1] (rcsZ (l.map zE))=0:=by rw [errM,if_pos hok]
  rw [merA,he] at hM hN
  generalize outM (l.map zE) [(0,0)] [-1] (rcsZ (l.map zE))=o at hM hN hS hol hoc hsm
  change zt _ _ _ (.p (.seq 2 (rowP (rcsZ (l.map zE))))) at hR
  generalize rcsZ (l.map zE)=rs at hM hN hR hrl hol hoc hsm
  have hol1:(o.map repC).length=o.length:=by simp
  have hrsl:=z04 rs
  have e1:rowP [((0:Int),(0:Int))] = [[.val (.int .i64 0),.val (.int .i64 0)]]:=rfl
  have e2:rowZ [(-1:Int)] = [[.val (.int .i64 (-1))]]:=rfl
  simp only [trA,raA,e1,e2] at hM hN
  refine MemC.of Tryz.func3 rfl 77 rfl (by decide) ?_;simp only [z08,frOf]
  simp only [hpG]
  repeat' (first|refine T.zk fun K hK=>?_|apply T.block|(refine T.reg (by kernel_rfl) fun K' hK'=>?_;simp only [bz];(repeat' (first|(with_reducible refine WL.fin ?_;apply hK';clear hK' K')|((with_reducible refine WL.step fun K2 hK2=>?_);simp only [simprocAttr,implies_true,amz,zf,tys,hl1,d1,hx1,hx2,m1,Bool.not_true,Bool.not_false,Bool.false_eq_true];(repeat' (first|with_reducible (first|(apply hK2;clear hK2 K2)|apply And.intro|intro hb)|((with_reducible first|apply zl|apply zn);case h=>exact CallV.read 1000001 hpG _ rfl (Ent.of Tryz.func4 (by kernel_rfl) rfl) (hA) (z2P (by decide) (fun t o ho=>by obtain ⟨rfl,rfl⟩:=qZ ho;simp [zq])) (by simp [AV.okB]) rfl)))))))|apply T.skip|apply T.exit|refine T.zh rfl ?_|refine T.zg rfl ?_|refine T.cond rfl (fun hc=>?_) (fun hc=>?_)|apply T.ret|simp only [ze,z8,reduceIte,Nat.reduceEqDiff]|((repeat ((fail_if_success apply hK);clear hK K));apply hK;clear hK K))
  refine T.z02 (fun k:Nat=>⟨[(2,.bool false),(3,.ptr 1000002 0),(28,.int (l.length:Int)),(29,.int (k:Int))],[(1000002,.boxP none 31 [.own 1000001,.p (.seq 2 [[.val (.int .i64 0),.val (.int .i64 0)]]),.p (.seq 1 [[.val (.int .i64 (-1))]])]),(1000001,.row 33 9 ((mixZ l k).map evC)),(1000000,.boxP (some 0) 186 (z0c z3T))],77,1000003⟩) (fun k=>k≤l.length) (fun k=>l.length-k) 0 (Nat.zero_le _) ?_ ?_
  ·simp only [mixZ_zero]
   refine zi.of' rfl ?_;simp only [wks,reduceIte,Nat.reduceEqDiff,ASt.okB,AV.okB,Nat.reduceLT,implies_true,zH,subC,Int.natCast_zero]
  intro k hk KL hKL
  have hml:((mixZ l k).map evC).length=l.length:=by rw [List.length_map,mixZ_len]
  by_cases hd:k<l.length
  ·have d2:decide ((k:Int)<(l.length:Int))=true:=by simp;omega
   obtain ⟨x,hx⟩:=qA hd
   have r1:=z0W (mixZ_at hx)
   have r2:=mixZ_rows hx
   have hk2:(k<l.length)=True:=eq_true hd
   obtain ⟨c0,cs,hcc⟩ : ∃ c0 cs,(mixZ l k).map evC=c0 :: cs:=by
    cases hc:(mixZ l k).map evC with
    | nil=>rw [hc] at hml;simp only [List.length_nil] at hml;omega
    | cons a b=>exact ⟨a,b,rfl⟩
   rw [hcc] at r1 r2 hml ⊢
   rw [List.length_cons] at hml
   repeat' (first|refine T.zk fun K hK=>?_|apply T.block|(refine T.reg (by kernel_rfl) fun K' hK'=>?_;simp only [bz];(with_reducible repeat' (first|(apply WL.fin;apply hK';clear hK' K')|(refine WL.step fun K2 hK2=>?_;simp only [simprocAttr,implies_true,amz,zf,tys,d2,hml,r1,r2,hk2];repeat' (first|(apply hK2;clear hK2 K2)|apply And.intro|intro hb)))))|apply T.skip|apply T.exit|refine T.zh rfl ?_|refine T.zg rfl ?_|refine T.cond rfl (fun hc=>?_) (fun hc=>?_)|apply T.ret|simp only [ze,z8,reduceIte,Nat.reduceEqDiff]|((repeat ((fail_if_success apply hK);clear hK K));apply hK;clear hK K))
   refine hKL _ (k+1) (by refine zi.of' rfl ?_;simp only [wks,reduceIte,Nat.reduceEqDiff,ASt.okB,AV.okB,Nat.reduceLT,implies_true,zH,zx (show k<1152921504606846976 by omega)]) (by omega) (by omega)
  ·have d2:decide ((k:Int)<(l.length:Int))=false:=by simp;omega
   obtain rfl:k=l.length:=by omega
   rw [mixZ_end]
   repeat' (first|refine T.zk fun K hK=>?_|apply T.block|apply T.skip|apply T.exit|refine T.zh rfl ?_|refine T.zg rfl ?_|refine T.cond rfl (fun hc=>?_) (fun hc=>?_)|apply T.ret|simp only [ze,z8,reduceIte,Nat.reduceEqDiff]|((repeat ((fail_if_success apply hK);clear hK K));apply hK;clear hK K))
   (refine T.reg (by kernel_rfl) fun K' hK'=>?_;simp only [bz];(with_reducible repeat' (first|(apply WL.fin;apply hK';clear hK' K')|(refine WL.step fun K2 hK2=>?_;simp only [simprocAttr,implies_true,amz,zf,tys,d2];repeat' (first|(apply hK2;clear hK2 K2)|apply And.intro|intro hb))));all_goals ((try simp only [ze,z8,reduceIte,Nat.reduceEqDiff]);(try ((repeat ((fail_if_success apply hK);clear hK K));apply hK;clear hK K))))
   refine T.weak (zi.frz _ 1000001) ?_;simp only [ASt.frz,List.filter_cons,List.filter_nil,bne_self_eq_false,Nat.reduceBneDiff,Bool.false_eq_true,simprocAttr,implies_true,amz,zf,tys,subC]
   repeat' (first|refine T.zk fun K hK=>?_|apply T.block|(refine T.reg (by kernel_rfl) fun K' hK'=>?_;simp only [bz];(repeat' (first|(with_reducible refine WL.fin ?_;apply hK';clear hK' K')|((with_reducible refine WL.step fun K2 hK2=>?_);simp only [simprocAttr,implies_true,amz,zf,tys,hol1,hrsl];(repeat' (first|with_reducible (first|(apply hK2;clear hK2 K2)|apply And.intro|intro hb)|((with_reducible first|apply zl|apply zn);case h=>exact CallV.plain (Ent.of Tryz.func5 (by kernel_rfl) rfl) (hR) (by simp [AV.okB]))|((with_reducible first|apply zl|apply zn);case h=>exact CallV.plain (Ent.of Tryz.func6 (by kernel_rfl) rfl) (hM) (by simp [AV.okB]))|((with_reducible first|apply zl|apply zn);case h=>exact CallV.plain (Ent.of Tryz.func7 (by kernel_rfl) rfl) (hN) (by simp [AV.okB]))))))))|apply T.skip|apply T.exit|refine T.zh rfl ?_|refine T.zg rfl ?_|refine T.cond rfl (fun hc=>?_) (fun hc=>?_)|apply T.ret|simp only [ze,z8,reduceIte,Nat.reduceEqDiff]|((repeat ((fail_if_success apply hK);clear hK K));apply hK;clear hK K))
   have hle : ∀ k,0≤sumC (o.take k)∧sumC (o.take k)≤640000:=fun k=>by
    have h:=sumC_le (n:=rs.length) (o:=o.take k) fun x hx=>hoc x (List.mem_of_mem_take hx)
    have h2:(o.take k).length*rs.length≤800*800:=Nat.mul_le_mul (by rw [List.length_take];omega) hrl
    have h3:(((o.take k).length*rs.length:Nat):Int)=((o.take k).length:Int)*(rs.length:Int):=Int.natCast_mul _ _
    omega
   refine T.z02 (fun k:Nat=>⟨[(2,.bool false),(5,.p (.seq 2 (rowP rs))),(6,.p (.seq 7 (o.map repC))),(7,.int 0),(8,.p (.seq 7 (o.map repC))),(10,.int (sumC (o.take k))),(53,.p (.seq 7 (o.map repC))),(54,.int (o.length:Int)),(55,.int (k:Int))],[(1000000,.boxP (some 0) 186 (z0c z3T))],77,1000003⟩) (fun k=>k≤o.length) (fun k=>o.length-k) 0 (Nat.zero_le _) ?_ ?_
   ·have hs0:sumC (o.take 0)=0:=rfl
    refine zi.of' rfl ?_;simp only [wks,reduceIte,Nat.reduceEqDiff,ASt.okB,AV.okB,Nat.reduceLT,implies_true,zH,subC,hs0,Int.natCast_zero]
   clear hKL KL
   intro k hk KL hKL
   by_cases hd:k<o.length
   ·have d3:decide ((k:Int)<(o.length:Int))=true:=by simp;omega
    obtain ⟨x,hx⟩:=qA hd
    have r1:=rep_at hx
    have hw:IntKind.i64.wrap (sumC (o.take k)+x.cnt)=sumC (o.take (k+1)):=by
     have h1:=hle (k+1)
     rw [← sumC_take hx,IntKind.wrap_i64];omega
    repeat' (first|refine T.zk fun K hK=>?_|apply T.block|(refine T.reg (by kernel_rfl) fun K' hK'=>?_;simp only [bz];(with_reducible repeat' (first|(apply WL.fin;apply hK';clear hK' K')|(refine WL.step fun K2 hK2=>?_;simp only [simprocAttr,implies_true,amz,zf,tys,d3,r1,hol1,hw];repeat' (first|(apply hK2;clear hK2 K2)|apply And.intro|intro hb)))))|apply T.skip|apply T.exit|refine T.zh rfl ?_|refine T.zg rfl ?_|refine T.cond rfl (fun hc=>?_) (fun hc=>?_)|apply T.ret|simp only [ze,z8,reduceIte,Nat.reduceEqDiff]|((repeat ((fail_if_success apply hK);clear hK K));apply hK;clear hK K))
    refine hKL _ (k+1) (by refine zi.of' rfl ?_;simp only [wks,reduceIte,Nat.reduceEqDiff,ASt.okB,AV.okB,Nat.reduceLT,implies_true,zH,zx (show k<1152921504606846976 by omega)]) (by omega) (by omega)
   ·have d3:decide ((k:Int)<(o.length:Int))=false:=by simp;omega
    obtain rfl:k=o.length:=by omega
    rw [List.take_length,hsm]
    repeat' (first|refine T.zk fun K hK=>?_|apply T.block|(refine T.reg (by kernel_rfl) fun K' hK'=>?_;simp only [bz];(repeat' (first|(with_reducible refine WL.fin ?_;apply hK';clear hK' K')|((with_reducible refine WL.step fun K2 hK2=>?_);simp only [simprocAttr,implies_true,amz,zf,tys,d3,hol1,hrsl,beq_self_eq_true];(repeat' (first|with_reducible (first|(apply hK2;clear hK2 K2)|apply And.intro|intro hb)|((with_reducible first|apply zl|apply zn);case h=>exact CallV.plain (Ent.of Tryz.func8 (by kernel_rfl) rfl) (hS) (by simp [AV.okB]))))))))|apply T.skip|apply T.exit|refine T.zh rfl ?_|refine T.zg rfl ?_|refine T.cond rfl (fun hc=>?_) (fun hc=>?_)|apply T.ret|simp only [ze,z8,reduceIte,Nat.reduceEqDiff]|((repeat ((fail_if_success apply hK);clear hK K));apply hK;clear hK K))
    all_goals (refine FinM.ret (s':=⟨[(2,.p (.val (.bool true)))],hpG,77,1000001⟩) (r := .p (.val (.bool true))) (.inr rfl) Tryz.results3 (by refine zi.of' rfl ?_;simp only [wks,reduceIte,Nat.reduceEqDiff,ASt.okB,AV.okB,Nat.reduceLT,implies_true,hpG,zH]) rfl ?_ ?_;(focus (simp only [zI,zu,zw,simprocAttr,implies_true,amz,zf,tys,];done)))
    all_goals exact ⟨rfl,rfl⟩
end Go.Proofs.YtbkkginjfnjffaaGreatDoor

namespace Go.Proofs.YtbkkginjfnjffaaGreatDoor
open Go.RowKit Go.Sort Go.ChangeShapes Go.WideShapes Go.ChangeAt
theorem trodAll_length {H:Type} {enc:TypeId × Value→H} {P:Program} {w:World} {base:Nat} {spare:Nat→Bool} {held:Bool} : ∀ {ts:List TypeId} {vs:List Value} {ds:List (DataW H)} {ps:List MemPlace},DataW.TrodAll enc P w base spare held ts vs ds ps→ds.length=ts.length
 | [],[],[],_,_=>rfl
 | _ :: _,_ :: _,_ :: _,_,⟨_,_,_,h,_⟩=>by simp [trodAll_length h]
theorem z3t {H:Type} {enc:TypeId × Value→H} {P:Program} {W W' : World} (hl:laidOutB P=true) (hb:Below W.heap.size W W') : ∀ {ts:List TypeId} {vs:List Value} {ds:List (DataW H)} {ps:List MemPlace},(∀ t ∈ ts,P.readableRec t=true∧t<P.types.size) →
  DataW.TrodAll enc P W 0 (fun _=>true) true ts vs ds ps→(∀ x ∈ ps,x.block<W.heap.size)→DataW.TrodAll enc P W' 0 (fun b=>decide (b<W.heap.size)) true ts vs ds ps
 | [],[],[],_,_,h,_=>h
 | t :: _,_ :: _,_ :: _,_,hT,⟨p,q,h1,h2,e⟩,hs =>
  ⟨p,q,Below.trod hl (hT t (List.mem_cons.2 (.inl rfl))).1 (hT t (List.mem_cons.2 (.inl rfl))).2 h1 hb (fun x hx=>hs x (by rw [e];exact List.mem_append_left _ hx)),
   z3t hl hb (fun t ht=>hT t (List.mem_cons.2 (.inr ht))) h2 (fun x hx=>hs x (by rw [e];exact List.mem_append_right _ hx)),e⟩
theorem law_post {H:Type} {enc:TypeId × Value→H} {P:Program} {f:Func} {s:ChangeSpec} {B:TypeId} (hl:laidOutB P=true) (hps : ∀ t ∈ f.params.toList,P.readableRec t=true∧t<P.types.size) (hres:f.resultTypes = #[B]) (hB:P.underlying B=some .bool)
  {W W' : World} (hb:Below W.heap.size W W') {args:Array Value} {ds gs:List (DataW H)} {before:List MemPlace} (hv:s.vars = []) (hW:DataW.Whole enc P f.params.toList s.vars false W args.toList ds gs before)
  (hspec : ∀ ds:List (DataW H),ds.length=f.params.size→s.fn H ds = { results := [.lit (.bool true)],args:=ds }) :
  s.post enc P f false true false false W args (.bool true) W':=by
 have hW':=hW
 have hlt:=hW.lt
 rw [hv] at hW
 obtain ⟨p,q,hA,hV,rfl,hfz,hnd⟩:=hW
 obtain ⟨rfl,rfl⟩:=trodVars_none hV
 have hsp:=hspec ds (by rw [trodAll_length hA];simp)
 have hlt' : ∀ x ∈ p,x.block<W.heap.size:=fun x hx=>hlt x (List.mem_append_left _ hx)
 refine ⟨ds,[],_,[],p,[],hW',?_,?_,?_,hb.frame _,fun h=>by cases h⟩
 ·rw [List.append_nil,hsp,hres]
  exact trodAll_mk1 (shut_bool hB true)
 ·rw [List.append_nil,hsp]
  exact z3t hl hb hps hA hlt'
 ·rw [List.append_nil,hsp,hv];rfl
theorem z7F {H:Type} {d:DataW H} {l:List (DataW H)} (h:d ∈ l):Rows.uptoBulk d≤Rows.uptoBulkAll l:=by
 induction l with
 | nil=>cases h
 | cons x r ih =>
  simp only [Rows.uptoBulkAll]
  rcases List.mem_cons.1 h with rfl|e
  ·omega
  ·have:=ih e;omega
theorem blk_one {H:Type} (d:DataW H) : 1≤Rows.uptoBulk d:=by
 cases d with
 | lit l=>cases l <;> simp [Rows.uptoBulk]
 | nil=>simp [Rows.uptoBulk]
 | ptr d=>simp [Rows.uptoBulk]
 | slice elems spare=>simp [Rows.uptoBulk]
 | agg parts=>simp [Rows.uptoBulk]
 | iface t d=>simp [Rows.uptoBulk]
 | map entries=>simp [Rows.uptoBulk]
 | held h=>simp [Rows.uptoBulk]
theorem blk_len {H:Type} (l:List (DataW H)):l.length≤Rows.uptoBulkAll l:=by
 induction l with
 | nil=>simp [Rows.uptoBulkAll]
 | cons x r ih=>have:=blk_one x;simp only [Rows.uptoBulkAll,List.length_cons];omega
theorem z6g {H:Type} (elems spare:List (DataW H)):Rows.uptoBulkAll elems+1≤Rows.uptoBulk (.slice elems spare):=by
 simp only [Rows.uptoBulk]
 omega
theorem blk_agg {H:Type} (l:List (DataW H)):Rows.uptoBulkAll l+1=Rows.uptoBulk (.agg l):=by
 simp only [Rows.uptoBulk]
def U64s (D:Nat→Prop) (W:World):Prop := ∀ b,D b → ∀ off v,W.cell? ⟨b,off,none⟩=some v → ∃ z,v = .int .u64 z
def NU (v:Value):Prop := ∀ z,v ≠ .int .u64 z
variable {H:Type} {enc:TypeId × Value→H} {W:World} {base:Nat} {spare:Nat→Bool} {held:Bool} {D:Nat→Prop}
def PRs (D:Nat→Prop) (W:World) (ps:List PV) (cs:List Value):Prop:=cs.length=ps.length ∧ ∀ (j:Nat) p v,ps[j]? = some p→cs[j]? = some v→PR D W p v
theorem PRs.nil:PRs D W [] []:=⟨rfl,fun j p v h=>by simp at h⟩
theorem PRs.cons {p:PV} {v:Value} {ps:List PV} {cs:List Value} (h:PR D W p v) (k:PRs D W ps cs):PRs D W (p :: ps) (v :: cs):=⟨by simp [k.1],fun j p' v' h1 h2=>by
 cases j with
 | zero=>simp at h1 h2;subst h1;subst h2;exact h
 | succ j=>exact k.2 j p' v' (by simpa using h1) (by simpa using h2)⟩
theorem PRs.ints (xs:List Int):PRs D W (xs.map fun x => .val (.int .i64 x)) (xs.map fun x => .int .i64 x):=by
 induction xs with
 | nil=>exact .nil
 | cons x r ih=>exact .cons (.val _ rfl) ih
theorem one_int {n:Nat} {cs:List Value} {y:DataW H × List MemPlace} (h:DataW.trod enc Tryz.prog W base spare held n 3 cs=some y) : ∃ x:Int,cs = [.int .i64 x]∧inW x:=by
 obtain ⟨x,hx,_,wx⟩:=DataW.trod_int (by kernel_rfl:Tryz.prog.underlying 3=some (.int .i64)) h
 refine ⟨x,hx,?_⟩
 simp [Lit.wf,IntKind.min,IntKind.max,IntKind.bits,IntKind.signed] at wx
 unfold inW;omega
theorem z6n : ∀ cs:List Value,(∀ v ∈ cs,∃ x:Int,v = .int .i64 x∧inW x) → ∃ xs:List Int,cs=xs.map (fun x => .int .i64 x) ∧ ∀ x ∈ xs,inW x
 | [],_=>⟨[],rfl,fun _ h=>by cases h⟩
 | v :: r,h=>by
  obtain ⟨x,rfl,hx⟩:=h v (List.mem_cons_self)
  obtain ⟨xs,rfl,hs⟩:=z6n r fun v hv=>h v (List.mem_cons_of_mem _ hv)
  exact ⟨x :: xs,rfl,fun z hz=>by
   rcases List.mem_cons.1 hz with rfl|hz
   ·exact hx
   ·exact hs z hz⟩
noncomputable def oneB (fs:Array Field) (k:Nat):Bool:=(List.range k).all fun i=>match fs[i]? with
 | some f=>decide (f.offset=i)&&decide (Tryz.prog.cellsOf f.type=1)
 | none=>false
theorem st_pr {t:TypeId} {fs:Array Field} {k c n:Nat} (hu:Tryz.prog.underlying t=some (.struct fs)) (hk:fs.size=k) (hc:Tryz.prog.cellsOf t=k) (hall:oneB fs k=true) {cs:List Value} {y:DataW H × List MemPlace}
  (h:DataW.trod enc Tryz.prog W base spare held n t cs=some y) (hb:Rows.uptoBulk y.1≤c) :
  cs.length=k ∧ ∃ m,∀ (i:Nat) (f:Field) (v:Value),fs[i]? = some f→cs[i]? = some v → ∃ x,DataW.trod enc Tryz.prog W base spare held m f.type [v]=some x∧Rows.uptoBulk x.1≤c:=by
 obtain ⟨xs,m,_,hy,hl,hx,hf⟩:=DataW.trod_struct hu h
 refine ⟨hl.trans hc,m,fun i f v hfi hv=>?_⟩
 have hi:i<fs.size:=(Array.getElem?_eq_some_iff.1 hfi).1
 have hall':=List.all_eq_true.1 hall i (List.mem_range.2 (by omega))
 rw [hfi] at hall'
 simp only [Bool.and_eq_true,decide_eq_true_eq] at hall'
 obtain ⟨ho,h1⟩:=hall'
 have h2:=hf i f hfi
 have h3:(cs.drop i).take 1 = [v]:=by
  have hil:=(List.getElem?_eq_some_iff.1 hv).1
  rw [drop_at hv];rfl
 rw [ho,h1,h3,List.getElem?_eq_getElem (by omega)] at h2
 refine ⟨_,h2,?_⟩
 rw [hy] at hb
 have h4:(xs[i]'(by omega)).1 ∈ xs.map (·.1):=List.mem_map.2 ⟨_,List.getElem_mem _,rfl⟩
 have h5:=z7F h4
 have h6:=blk_agg (xs.map (·.1))
 simp only at hb
 omega
noncomputable def intB (fs:Array Field) (k:Nat):Bool:=(List.range k).all fun i=>match fs[i]? with
 | some f=>decide (f.type=3)
 | none=>false
theorem ints_of {t:TypeId} {fs:Array Field} {k n:Nat} (hu:Tryz.prog.underlying t=some (.struct fs)) (hk:fs.size=k) (hc:Tryz.prog.cellsOf t=k) (hall:oneB fs k=true) (hint:intB fs k=true) {cs:List Value} {y:DataW H × List MemPlace}
  (h:DataW.trod enc Tryz.prog W base spare held n t cs=some y) : ∃ xs:List Int,xs.length=k∧cs=xs.map (fun x => .int .i64 x) ∧ ∀ x ∈ xs,inW x:=by
 obtain ⟨hl,m,hf⟩:=st_pr hu hk hc hall h (Nat.le_refl _)
 obtain ⟨xs,e,hw⟩:=z6n cs fun v hv=>by
  obtain ⟨i,hi⟩:=List.mem_iff_getElem?.1 hv
  have hil:=(List.getElem?_eq_some_iff.1 hi).1
  have hall':=List.all_eq_true.1 hint i (List.mem_range.2 (by omega))
  have hfs:fs[i]? = some (fs[i]'(by omega)):=Array.getElem?_eq_getElem (by omega)
  rw [hfs] at hall'
  simp only [decide_eq_true_eq] at hall'
  obtain ⟨x,hx,_⟩:=hf i _ v hfs hi
  rw [hall'] at hx
  obtain ⟨z,hz,hzw⟩:=one_int hx
  cases hz
  exact ⟨z,rfl,hzw⟩
 exact ⟨xs,by rw [← hl,e,List.length_map],e,hw⟩
theorem sl_pr (hD:U64s D W) {α:Type} {n c:Nat} {g : α→List PV} {p : α→Prop} {e t:TypeId} (hu:Tryz.prog.underlying t=some (.slice e)) (hc:Tryz.prog.cellsOf e=n) (hg : ∀ x,(g x).length=n) (hn : 0<n)
  (hel : ∀ m cs y,DataW.trod enc Tryz.prog W base spare held m e cs=some y→Rows.uptoBulk y.1≤c → ∃ x,p x∧PRs D W (g x) cs ∧ ∀ v,cs[0]? = some v→NU v) {m:Nat} {cs:List Value} {y:DataW H × List MemPlace} (h:DataW.trod enc Tryz.prog W base spare held m t cs=some y) (hb:Rows.uptoBulk y.1≤c) :
  ∃ (L:List α) (v:Value),cs = [v]∧PR D W (.seq n (L.map g)) v∧NU v∧(∀ x ∈ L,p x)∧L.length≤c:=by
 rcases DataW.trod_slice hu h with ⟨h0,_⟩|⟨a,len,cap,elems,rest,k,_,hcs,hyy,_,hlc,hmax,hlen,hel',_⟩
 ·exact ⟨[],_,h0,.nil n none 0 fun _=>rfl,(fun z e=>by cases e),(fun _ h=>by cases h),Nat.zero_le _⟩
 ·have hbe : ∀ x ∈ elems,Rows.uptoBulk x.1≤c:=fun x hx=>by
   have h1:=z7F (List.mem_map.2 ⟨x,hx,rfl⟩ : x.1 ∈ elems.map (·.1))
   have h2:=z6g (elems.map (·.1)) (rest.map (·.1))
   rw [hyy] at hb
   simp only at hb
   omega
  have hlc2:len≤c:=by
   have h1:=blk_len (elems.map (·.1))
   have h2:=z6g (elems.map (·.1)) (rest.map (·.1))
   rw [hyy] at hb
   rw [List.length_map] at h1
   simp only at hb
   omega
  have hall : ∀ i,i<len → ∃ (x : α) (c:List Value),(p x∧PRs D W (g x) c ∧ ∀ v,c[0]? = some v→NU v) ∧ ∀ j,j<n→W.cell? ((a.add (i*n)).add j)=c[j]?:=fun i hi=>by
   have hE:=hel' i hi
   rw [List.getElem?_eq_getElem (by omega),Option.bind_eq_some_iff,hc] at hE
   obtain ⟨cs,hcs,hy⟩:=hE
   obtain ⟨_,hl,hat⟩:=World.cells?_some hcs
   obtain ⟨x,hx⟩:=hel _ _ _ hy (hbe _ (List.getElem_mem _))
   exact ⟨x,cs,hx,fun j hj=>hat j hj⟩
  by_cases h0 : 0<len
  ·obtain ⟨e0,c0,hp0,hc0⟩:=hall 0 h0
   have hl0:c0.length=n:=by rw [hp0.2.1.1,hg]
   have hc00:=hc0 0 hn
   obtain ⟨b,off,spot⟩:=a
   rw [List.getElem?_eq_getElem (by omega)] at hc00
   have hspot:spot=none:=by
    have:=World.cell?_spot hc00
    simpa [Addr.add] using this
   subst hspot
   have hnD : ¬ D b:=fun hd=>by
    rw [Go.WideShapes.add_plain,Go.WideShapes.add_plain] at hc00
    obtain ⟨z,hz⟩:=hD b hd _ _ hc00
    exact hp0.2.2 _ (List.getElem?_eq_getElem (by omega)) z hz
   have hall2 : ∀ i,i<len → ∃ (x : α) (c:List Value),(p x∧PRs D W (g x) c) ∧ ∀ j,j<n→W.cell? ⟨b,off+i*n+j,none⟩=c[j]?:=fun i hi=>by
    obtain ⟨x,c,h1,h2⟩:=hall i hi
    refine ⟨x,c,⟨h1.1,h1.2.1⟩,fun j hj=>?_⟩
    have:=h2 j hj
    rw [Go.WideShapes.add_plain,Go.WideShapes.add_plain] at this
    exact this
   have hOld:Old b W:=by
    obtain ⟨x,c,h1,h2⟩:=hall2 0 h0
    have h3:=h2 0 hn
    have hl1:c.length=n:=by rw [h1.2.1,hg]
    rw [List.getElem?_eq_getElem (by omega)] at h3
    exact Old.of_cell h3
   let X:Fin len → α:=fun i=>(hall2 i.1 i.2).choose
   have hX : ∀ i:Fin len,∃ c:List Value,(p (X i)∧PRs D W (g (X i)) c) ∧ ∀ j,j<n→W.cell? ⟨b,off+i.1*n+j,none⟩=c[j]?:=fun i=>(hall2 i.1 i.2).choose_spec
   have hlen2:(((List.finRange len).map X).map g).length=len:=by simp
   refine ⟨(List.finRange len).map X,.slice (some ⟨b,off,none⟩) (((List.finRange len).map X).map g).length cap,by rw [hcs,hlen2],?_,(fun z e=>by cases e),(fun x hx=>?_),by simpa using hlc2⟩
   ·have key : ∀ k r j x,(((List.finRange len).map X).map g)[k]? = some r→r[j]? = some x → ∃ v,W.cell? ⟨b,off+k*n+j,none⟩=some v∧PR D W x v:=fun k r j x hk hx=>by
     simp only [List.getElem?_map,Option.map_eq_some_iff] at hk
     obtain ⟨y,⟨i,hi,rfl⟩,rfl⟩:=hk
     have hki:i.1=k:=by
      obtain ⟨h1,h2⟩:=List.getElem?_eq_some_iff.1 hi
      rw [← h2];simp
     obtain ⟨c,h1,h2⟩:=hX i
     have hjn:j<n:=by rw [← hg (X i)];exact (List.getElem?_eq_some_iff.1 hx).1
     have hcl:c.length=n:=by rw [h1.2.1,hg]
     have h3:=h2 j hjn
     rw [hki,List.getElem?_eq_getElem (by omega)] at h3
     exact ⟨_,h3,h1.2.2 j x _ hx (List.getElem?_eq_getElem (by omega))⟩
    refine .seq n b off cap _ (fun k j=>(W.cell? ⟨b,off+k*n+j,none⟩).getD undef) hOld hnD (by rw [hlen2];exact hlc) hmax (fun r hr=>?_) (fun k r j x hk hx=>?_) (fun k r j x hk hx=>?_)
    ·obtain ⟨y,_,rfl⟩:=List.mem_map.1 hr;exact hg y
    ·obtain ⟨v,h1,_⟩:=key k r j x hk hx
     rw [h1];rfl
    ·obtain ⟨v,h1,h2⟩:=key k r j x hk hx
     rw [h1];exact h2
   ·obtain ⟨i,_,rfl⟩:=List.mem_map.1 hx
    exact (hX i).choose_spec.1.1
  ·obtain rfl:len=0:=by omega
   exact ⟨[],_,hcs,PR.nil n (some a) cap (fun e=>by cases e),(fun z e=>by cases e),(fun _ h=>by cases h),Nat.zero_le _⟩
theorem nu_ints {xs:List Int} : ∀ v,(xs.map fun x=>Value.int .i64 x)[0]? = some v→NU v:=fun v h=>by
 rw [List.getElem?_map,Option.map_eq_some_iff] at h
 obtain ⟨x,_,rfl⟩:=h
 intro z e;cases e
theorem ev_of {n c:Nat} {cs:List Value} {y:DataW H × List MemPlace} (h:DataW.trod enc Tryz.prog W base spare held n 33 cs=some y) (_:Rows.uptoBulk y.1≤c) : ∃ x:Ev,EvW x∧PRs D W (evC x) cs ∧ ∀ v,cs[0]? = some v→NU v:=by
 obtain ⟨xs,hl,rfl,hw⟩:=ints_of (t := 33) (k := 9) rfl rfl (by kernel_rfl) (by kernel_rfl) (by kernel_rfl) h
 match xs,hl with
 | [x0,x1,x2,x3,x4,x5,x6,x7,x8],_=>exact ⟨⟨x0,x1,x2,x3,x4,x5,x6,x7,x8⟩,⟨hw _ (by simp),hw _ (by simp),hw _ (by simp)⟩,PRs.ints [x0,x1,x2,x3,x4,x5,x6,x7,x8],nu_ints⟩
variable {H:Type} {enc:TypeId × Value→H} {W:World} {base:Nat} {D:Nat→Prop} {N:Nat} {loc:Nat→Option Value}
theorem z4X {P:Program} {w:World} {r:Reach} {base:Nat} {t e:TypeId} {v x:Value} (hu:P.underlying t=some (.slice e)) (hok:Value.okWide P w r base t v) (h:v.cells.toList = [x]):v=x:=by
 unfold Value.okWide at hok
 rw [hu] at hok
 cases v <;> simp [Value.cells] at h <;> first|exact h|(simp [Cell.okWide,Cell.ok,hu] at hok)
theorem Tryz.own:ownKnob Tryz.prog.godebug=none:=by kernel_rfl
theorem shape_at {P:Program} {W:World} (hsh:W.ShapedOpen P) {g:Nat} {t:TypeId} (hg:g<P.globals.size) (ht:(((begin P (fun _ _ => 0) default).world.heap[g]?).bind Obj.row?).map (·.2)=some t) : ∃ cs,W.heap[g]? = some (.cells cs t (0,0)):=by
 obtain ⟨⟨zero,t'⟩,h1,rfl⟩:=Option.map_eq_some_iff.1 ht
 obtain ⟨cs,h2,_⟩:=hsh.1 g zero t' hg h1
 exact ⟨cs,h2⟩
theorem block_at {P:Program} {W:World} {name:String} {g:Nat} {t:TypeId} {cs:Array Value} (hg:P.globalNamed name=some g) (hv:W.var? P name=some cs) (hb : ∃ c,W.heap[g]? = some (.cells c t (0,0))):W.heap[g]? = some (.cells cs t (0,0)):=by
 obtain ⟨c,hc⟩:=hb
 unfold World.var? at hv
 rw [hg] at hv
 simp only [Option.bind_some,hc,Option.some.injEq] at hv
 rw [hc,hv]
theorem z8I {W : World} (hL : laidMetH Tryz.prog Rows.reportRacesRow.laid W) (hsh : W.ShapedOpen Tryz.prog) : W.heap[0]? = some (.cells z3T.toArray 186 (0, 0)) := by
  rw [MakeChecks.laidMetH_plain _ _ _ (by kernel_rfl)] at hL
  obtain ⟨ps, ⟨_, _, _, _, _, _, _, _, _, _, ⟨_, _, _, _, _, _, _, _, _, _, ⟨g1, t1, cs1, fu1, p1, q1, a1, a2, a3, a4, _, _⟩, _⟩, _⟩, _⟩ := hL
  obtain rfl := Option.some.inj ((show Tryz.prog.globalNamed "internal/strconv.uint64pow10" = some 0 by kernel_rfl).symm.trans a1)
  obtain rfl := Option.some.inj ((show (Tryz.prog.globals[0]?).map (·.type) = some 186 by kernel_rfl).symm.trans a2)
  have e1 : Rows.laid_internal_strconv_uint64pow10 = (Go.Lib.tabData .u64 Go.Lib.pow10Tab : DataW Unit) := by kernel_rfl
  rw [e1] at a4
  have c1 := Go.Lib.cells_of_tab (n := 20) (e := 158) (by kernel_rfl) (by kernel_rfl) (by kernel_rfl) (by kernel_rfl) a4
  have h1 := block_at (t := 186) a1 a3 (shape_at hsh (by decide +kernel) (by kernel_rfl))
  rw [h1, show cs1 = z3T.toArray from Array.toList_inj.1 (c1.trans rfl)]
def locG:Nat→Option Value:=fun t=>if t=1000000 then some (.pointer (some ⟨0,0,none⟩)) else none
theorem or_plain {N:Nat} {D:Nat→Prop} {loc:Nat→Option Value} {W:World} {g:Nat} {ty:TypeId} {us:List Value} (h:W.heap[g]? = some (.cells us.toArray ty (0,0))) (h1 : ∀ v ∈ us,v.oneCell' = true):OR N D loc W (.pointer (some ⟨g,0,none⟩)) (.boxP (some g) ty (z0c us)) :=
 ⟨g,_,rfl,h,by simp [z0c],fun j x hx=>by
  simp only [z0c,List.getElem?_map,Option.map_eq_some_iff] at hx
  obtain ⟨v,hv,rfl⟩:=hx
  have:us.toArray.getD j undef=v:=by rw [Array.getD_eq_getD_getElem?,List.getElem?_toArray,hv];rfl
  rw [this]
  exact .qC _ (h1 v (List.mem_of_getElem? hv)),fun j hj=>by
  have hj' : j<us.length:=by simpa using hj
  rw [Array.getD_eq_getD_getElem?,List.getElem?_toArray,List.getElem?_eq_getElem hj']
  exact h1 _ (List.getElem_mem hj'),fun p e=>by cases e;rfl⟩
theorem z8i : ∀ v ∈ z3T,∃ z,v = .int .u64 z:=fun v hv=>by
 simp only [z3T,List.mem_map] at hv
 obtain ⟨z,_,rfl⟩:=hv
 exact ⟨_,rfl⟩
theorem hrelG {W:World} (h0:W.heap[0]? = some (.cells z3T.toArray 186 (0,0))):HRel (fun _=>False) 1000001 hpG locG W:=by
 have hl : ∀ t u,locG t=some u→t=1000000∧u = .pointer (some ⟨0,0,none⟩):=fun t u h=>by
  unfold locG at h
  split at h
  ·cases h;exact ⟨by assumption,rfl⟩
  ·cases h
 refine ⟨fun t o h=>?_,fun t h=>?_,fun t t' u u' b e1 e2 e3 e4=>?_,fun b h=>h.elim,fun t u b _ _ h=>h⟩
 ·obtain ⟨rfl,rfl⟩:=qZ h
  exact ⟨by omega,_,rfl,or_plain h0 fun v hv=>by obtain ⟨z,rfl⟩:=z8i v hv;rfl⟩
 ·unfold locG
  rw [if_neg]
  rintro rfl
  cases h
 ·obtain ⟨rfl,rfl⟩:=hl t u e1
  obtain ⟨rfl,rfl⟩:=hl t' u' e2
  rfl
theorem u64G {W:World} (h0:W.heap[0]? = some (.cells z3T.toArray 186 (0,0))):U64s (Dm (fun _=>False) locG) W:=fun b hb j v hv=>by
 rcases hb with hb|⟨t,u,e1,e2⟩
 ·exact hb.elim
 ·unfold locG at e1
  split at e1
  ·cases e1
   cases e2
   simp only [World.cell?,h0] at hv
   have:z3T[j]? = some v:=by simpa using hv
   exact z8i v (List.mem_of_getElem? this)
  ·cases e1
end Go.Proofs.YtbkkginjfnjffaaGreatDoor
