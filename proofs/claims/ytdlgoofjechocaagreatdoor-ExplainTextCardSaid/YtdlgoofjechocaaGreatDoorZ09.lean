/- Texts Pv, Pw, Ph. -/
import Derived.Test.YtdlgoofjechocaaGreatDoorZ08
set_option maxHeartbeats 32000000
set_option maxRecDepth 100000
set_option linter.unusedSimpArgs false
set_option linter.unusedVariables false
namespace Go.Proofs.YtdlgoofjechocaaGreatDoor
open Go.RowKit Go.Sort Go.Maps
theorem rels_ok (B:Nat) (hB:B=2000010) (l:List Ev) (hl:l.length≤1000000) (hI : ∀ e ∈ l,inI e.g∧inI e.obj∧inI e.off∧(e.kind=14→inI e.k)) (H:List Ed→Hp) (hH : ∀ acc,HpOk 2000000 (H acc)) (y:Nat) (hy:y<2000000) (hv:Value) (hh : ∀ acc,∃ o,(H acc).lookup y=some o∧o.handle=some hv)
  (hyld : ∀ acc x,(∃ r,z00 l l.length=acc++x :: r) → ∃ lr sp fr,(H acc).lookup y=some (.lrec lr sp fr)∧YldC Tryz.prog lr 2000000 (H acc) [.agg ((edC x).map .p)] fun hp' r=>hp' = H (acc ++ [x])∧r = .bool true) :
  MemC Tryz.prog 59 2000000 (H []) [.own y,.elt [.seq 9 (l.map evC)] 0] fun hp' r=>hp' = H (z00 l l.length)∧r = .tup []:=by
 refine MemC.of Tryz.func59 rfl 190 rfl (by decide) ?_;simp only [qi,frOf]
 have hy4:y<5000004:=by omega
 have hy6:y<5000006:=by omega
 have hy7:y<5000007:=by omega
 refine T.weak (zk.upN _ 5000000 (by simp)) ?_
 repeat' (first|refine T.zh fun K hK=>?_|apply T.block|(refine T.reg (by kernel_rfl) fun K' hK'=>?_;simp only [bz];(with_reducible repeat' (first|(apply WL.fin;apply hK';clear hK' K')|(refine WL.step fun K2 hK2=>?_;simp only [simprocAttr,az];repeat' (first|(apply hK2;clear hK2 K2)|apply And.intro|intro hb)))))|apply T.skip|apply T.exit|refine T.zg rfl ?_|refine T.zf rfl ?_|refine T.cond rfl (fun hc=>?_) (fun hc=>?_)|apply T.ret|simp only [zb,za,reduceIte,Nat.reduceEqDiff]|((repeat ((fail_if_success apply hK);clear hK K));apply hK;clear hK K))
 refine T.weak (zk.toM _ 5000002 none Tryz.prog 94 0 (by simp only [zy,Nat.reduceEqDiff,reduceIte])) ?_
 simp only [zF,List.map_cons,List.map_nil,Nat.reduceEqDiff,reduceIte,(hH []).set,Nat.reduceLeDiff]
 refine T.qC (fun s:It=>⟨[(0,.own y),(1,.elt [.seq 9 (l.map evC)] 0),(3,.own 5000000),(4,.own 5000001),(5,.own 5000002),(6,.own 5000003),(25,.p (.seq 9 (l.map evC))),(26,.int l.length),(27,.int s.j)],hpI B l s (H (z00 l s.j)),190,5000004⟩) (ItOk l) (fun s=>l.length-s.j) ⟨0,fun _ _=>none,[],0,0,0,0⟩ ?_ ?_ ?_
 ·exact ⟨Nat.zero_le _,Nat.zero_le _,fun o f i h=>(by cases h),fun o f _=>rfl,fun o f o' f' i h=>(by cases h),Nat.le_refl _,Nat.le_refl _,Nat.zero_le _,Nat.le_refl _⟩
 ·refine zk.frm _ _ _ _ (fun t=>?_) (by simp only [wks,reduceIte,Nat.reduceEqDiff,implies_true,and_self,Int.natCast_zero,hy4]) (by simp only [wks,AV.okB,Nat.reduceLT,decide_true,List.all_cons,List.all_nil,Bool.and_self,Int.natCast_zero,hy4]) ?_
  ·have e1:(inM nI fun g=>qA l (fun d=>d.g==g) 0)=fun _=>none:=z6H nI
   have e2:(inM nI fun g=>qA l (qV g) 0)=fun _=>none:=z6H nI
   have e3:atM B (fun _ _=>none)=fun _=>none:=plA_none
   have e4:(plM nI fun o f=>qA l (wrAt o f) 0)=fun _=>none:=z9l nI
   simp only [hpI,e1,e2,e3,e4,List.map_nil,mat,List.nil_append,z00,zy]
   repeat' split
   all_goals first|rfl|omega
  ·exact z0K hB hl ⟨Nat.zero_le _,Nat.zero_le _,fun o f i h=>(by cases h),fun o f _=>rfl,fun o f o' f' i h=>(by cases h),Nat.le_refl _,Nat.le_refl _,Nat.zero_le _,Nat.le_refl _⟩ (hH _)
 intro s hs KL hKL
 have hR:(s.R.map rowI).length≤1000000:=by have:=hs.R;have:=hs.j;simp;omega
 have ht:=hH (z00 l s.j)
 by_cases hlt:s.j<l.length
 ·obtain ⟨e,hx⟩:=zQ hlt
  have hd:decide ((s.j:Int)<(l.length:Int))=true:=by simpa using hlt
  simp only [hpI]
  obtain ⟨rest,hrest⟩ : ∃ r,z00 l l.length=z00 l s.j++(z2Y l e s.j++(z0I l e s.j (atL l e.obj e.off s.j)++(z2o l e s.j++r))):=by
   obtain ⟨r,hr⟩:=z7y (l:=l) l.length (s.j+1) (by omega)
   exact ⟨r,by rw [hr,z2P hx,z3K];simp only [List.append_assoc]⟩
  obtain ⟨acc,hacc⟩ : ∃ acc,acc=z00 l s.j:=⟨_,rfl⟩
  rw [← hacc] at hrest ht ⊢
  obtain ⟨iG,iO,iF,iK⟩:=hI e (List.mem_of_getElem? hx)
  repeat' (first|refine T.zh fun K hK=>?_|apply T.block|apply T.skip|apply T.exit|refine T.zg rfl ?_|refine T.zf rfl ?_|refine T.cond rfl (fun hc=>?_) (fun hc=>?_)|apply T.ret|simp only [zb,za,reduceIte,Nat.reduceEqDiff]|((repeat ((fail_if_success apply hK);clear hK K));apply hK;clear hK K))
  (refine T.reg (by kernel_rfl) fun K' hK'=>?_;simp only [bz];(with_reducible repeat' (first|(apply WL.fin;apply hK';clear hK' K')|(refine WL.step fun K2 hK2=>?_;simp only [simprocAttr,az,hx,hd,evC,zL hB hR ht,z03 hB hR ht,hR];repeat' (first|(apply hK2;clear hK2 K2)|apply And.intro|intro hb))));all_goals ((try simp only [zb,za,reduceIte,Nat.reduceEqDiff]);(try ((repeat ((fail_if_success apply hK);clear hK K));apply hK;clear hK K))))
  repeat' (first|refine T.zh fun K hK=>?_|apply T.block|apply T.skip|apply T.exit|refine T.zg rfl ?_|refine T.zf rfl ?_|refine T.cond rfl (fun hc=>?_) (fun hc=>?_)|apply T.ret|simp only [zb,za,reduceIte,Nat.reduceEqDiff]|((repeat ((fail_if_success apply hK);clear hK K));apply hK;clear hK K))
  (refine T.reg (by kernel_rfl) fun K' hK'=>?_;simp only [bz];(with_reducible repeat' (first|(apply WL.fin;apply hK';clear hK' K')|(refine WL.step fun K2 hK2=>?_;simp only [simprocAttr,az,hx,hd,evC,zL hB hR ht,z03 hB hR ht,hR];repeat' (first|(apply hK2;clear hK2 K2)|apply And.intro|intro hb))));all_goals ((try simp only [zb,za,reduceIte,Nat.reduceEqDiff]);(try ((repeat ((fail_if_success apply hK);clear hK K));apply hK;clear hK K))))
  repeat' (first|refine T.zh fun K hK=>?_|apply T.block|apply T.skip|apply T.exit|refine T.zg rfl ?_|refine T.zf rfl ?_|refine T.cond rfl (fun hc=>?_) (fun hc=>?_)|apply T.ret|simp only [zb,za,reduceIte,Nat.reduceEqDiff]|((repeat ((fail_if_success apply hK);clear hK K));apply hK;clear hK K))
  (refine T.reg (by kernel_rfl) fun K' hK'=>?_;simp only [bz];(with_reducible repeat' (first|(apply WL.fin;apply hK';clear hK' K')|(refine WL.step fun K2 hK2=>?_;simp only [simprocAttr,az,hx,hd,evC,zL hB hR ht,z03 hB hR ht,hR];repeat' (first|(apply hK2;clear hK2 K2)|apply And.intro|intro hb))));all_goals ((try simp only [zb,za,reduceIte,Nat.reduceEqDiff]);(try ((repeat ((fail_if_success apply hK);clear hK K));apply hK;clear hK K))))
  refine T.zh fun K hK=>?_
  suffices hmid : ∀ s',zk s' ⟨frI l y s.j,ownI B l e s++H (acc++z2Y l e s.j),190,5000006⟩→K s' by
   clear hK
   have hK:=hmid
   clear hmid
   cases hA:qA l (fun d=>d.g==e.g) s.j with
   | some i =>
    have hrA:z2Y l e s.j = [⟨i,s.j,0⟩]:=by rw [z2Y,hA]
    rw [hrA] at hK hrest
    obtain ⟨lr,sp,fr0,hlk0,hyc0⟩:=hyld acc ⟨i,s.j,0⟩ ⟨_,hrest⟩
    simp only [edC,List.map_cons,List.map_nil] at hyc0
    repeat' (first|refine T.zh fun K hK=>?_|apply T.block|apply T.skip|apply T.exit|refine T.zg rfl ?_|refine T.zf rfl ?_|refine T.cond rfl (fun hc=>?_) (fun hc=>?_)|apply T.ret|simp only [zb,za,reduceIte,Nat.reduceEqDiff]|((repeat ((fail_if_success apply hK);clear hK K));apply hK;clear hK K))
    (refine T.reg (by kernel_rfl) fun K' hK'=>?_;simp only [bz];(with_reducible repeat' (first|(apply WL.fin;apply hK';clear hK' K')|(refine WL.step fun K2 hK2=>?_;simp only [simprocAttr,az,hA,qw,qm iG,z5V,nI,zL hB hR ht,z03 hB hR ht,hR,Option.isSome_some];repeat' (first|(apply hK2;clear hK2 K2)|apply And.intro|intro hb))));all_goals ((try simp only [zb,za,reduceIte,Nat.reduceEqDiff]);(try ((repeat ((fail_if_success apply hK);clear hK K));apply hK;clear hK K))))
    repeat' (first|refine T.zh fun K hK=>?_|apply T.block|apply T.skip|apply T.exit|refine T.zg rfl ?_|refine T.zf rfl ?_|refine T.cond rfl (fun hc=>?_) (fun hc=>?_)|apply T.ret|simp only [zb,za,reduceIte,Nat.reduceEqDiff]|((repeat ((fail_if_success apply hK);clear hK K));apply hK;clear hK K))
    (refine T.reg (by kernel_rfl) fun K' hK'=>?_;simp only [bz];(with_reducible repeat' (first|(apply WL.fin;apply hK';clear hK' K')|(refine WL.step fun K2 hK2=>?_;simp only [simprocAttr,az];repeat' (first|(apply hK2;clear hK2 K2)|apply And.intro|intro hb))));all_goals ((try simp only [zb,za,reduceIte,Nat.reduceEqDiff]);(try ((repeat ((fail_if_success apply hK);clear hK K));apply hK;clear hK K))))
    repeat' (first|refine T.zh fun K hK=>?_|apply T.block|apply T.skip|apply T.exit|refine T.zg rfl ?_|refine T.zf rfl ?_|refine T.cond rfl (fun hc=>?_) (fun hc=>?_)|apply T.ret|simp only [zb,za,reduceIte,Nat.reduceEqDiff]|((repeat ((fail_if_success apply hK);clear hK K));apply hK;clear hK K))
    refine T.regI (by kernel_rfl) fun K' hK'=>?_;simp only [List.map_cons,List.map_nil]
    iterate 4 ((with_reducible refine WLI.z06 fun K2 hK2=>?_);simp only [simprocAttr,az];(repeat' (first|with_reducible (first|(apply hK2;clear hK2 K2)|apply And.intro|intro hb))))
    (with_reducible refine WLI.z7Y fun K2 hK2=>?_);simp only [WSY,WY,simprocAttr,az];(refine z5q.of 2000000 (ownI B l e s) (H (acc)) (H (acc ++ [⟨i,s.j,0⟩])) _ _ _ rfl (z0H hB _ _ _) ?_ (hH _) hyc0 hlk0 (z8e hh _ _) (by decide) (by simp [AV.okB,AV.z0b]) ?_);(focus (simp only [z1m hB,List.map_cons,AO.z1A,AV.z0F,List.map_nil,evC];done));apply hK2;clear hK2 K2;(refine WLI.weak (zk.hpe _ (ownI B l e s++H (acc ++ [⟨i,s.j,0⟩])) (z3g (z0H hB _ _ _) (hH _))) ?_);simp only [List.map_cons,List.map_nil,AV.z0E,AV.z0D,AV.z0o,AV.z0X,AV.z0F,AV.z0V,AV.z0a,AV.z0p,AV.z1J,AV.z0T,AV.z0U,Nat.reduceLeDiff,true_or,reduceIte,List.mem_singleton,or_true,ownI,List.cons_append,qJ,tys]
    (with_reducible refine WLI.z06 fun K2 hK2=>?_);simp only [simprocAttr,az];(repeat' (first|with_reducible (first|(apply hK2;clear hK2 K2)|apply And.intro|intro hb)))
    (with_reducible refine WLI.fin ?_);apply hK';clear hK' K';(try simp only [zb,za,reduceIte,Nat.reduceEqDiff]);(try ((repeat ((fail_if_success apply hK);clear hK K));apply hK;clear hK K))
    repeat' (first|refine T.zh fun K hK=>?_|apply T.block|(refine T.reg (by kernel_rfl) fun K' hK'=>?_;simp only [bz];(with_reducible repeat' (first|(apply WL.fin;apply hK';clear hK' K')|(refine WL.step fun K2 hK2=>?_;simp only [simprocAttr,az];repeat' (first|(apply hK2;clear hK2 K2)|apply And.intro|intro hb)))))|apply T.skip|apply T.exit|refine T.zg rfl ?_|refine T.zf rfl ?_|refine T.cond rfl (fun hc=>?_) (fun hc=>?_)|apply T.ret|simp only [zb,za,reduceIte,Nat.reduceEqDiff]|((repeat ((fail_if_success apply hK);clear hK K));apply hK;clear hK K))
    refine zk.frm _ _ _ _ (fun t=>?_) (by simp only [wks,reduceIte,Nat.reduceEqDiff,implies_true,and_self,frI,hy6,]) (by simp only [wks,AV.okB,Nat.reduceLT,decide_true,List.all_cons,List.all_nil,Bool.and_self,frI,hy6,]) ?_;(focus (first|rfl|(simp only [ownI,List.cons_append];done)));exact qL hB hl hs (hH _)
   | none =>
    cases hS:qA l (qV e.g) s.j with
    | some i =>
     have hrA:z2Y l e s.j = [⟨i,s.j,e.kind⟩]:=by rw [z2Y,hA,hS]
     rw [hrA] at hK hrest
     obtain ⟨lr,sp,fr0,hlk0,hyc0⟩:=hyld acc ⟨i,s.j,e.kind⟩ ⟨_,hrest⟩
     simp only [edC,List.map_cons,List.map_nil] at hyc0
     repeat' (first|refine T.zh fun K hK=>?_|apply T.block|apply T.skip|apply T.exit|refine T.zg rfl ?_|refine T.zf rfl ?_|refine T.cond rfl (fun hc=>?_) (fun hc=>?_)|apply T.ret|simp only [zb,za,reduceIte,Nat.reduceEqDiff]|((repeat ((fail_if_success apply hK);clear hK K));apply hK;clear hK K))
     (refine T.reg (by kernel_rfl) fun K' hK'=>?_;simp only [bz];(with_reducible repeat' (first|(apply WL.fin;apply hK';clear hK' K')|(refine WL.step fun K2 hK2=>?_;simp only [simprocAttr,az,hA,qw,qm iG,z5V,nI,zL hB hR ht,z03 hB hR ht,Option.isSome_none];repeat' (first|(apply hK2;clear hK2 K2)|apply And.intro|intro hb))));all_goals ((try simp only [zb,za,reduceIte,Nat.reduceEqDiff]);(try ((repeat ((fail_if_success apply hK);clear hK K));apply hK;clear hK K))))
     repeat' (first|refine T.zh fun K hK=>?_|apply T.block|apply T.skip|apply T.exit|refine T.zg rfl ?_|refine T.zf rfl ?_|refine T.cond rfl (fun hc=>?_) (fun hc=>?_)|apply T.ret|simp only [zb,za,reduceIte,Nat.reduceEqDiff]|((repeat ((fail_if_success apply hK);clear hK K));apply hK;clear hK K))
     (refine T.reg (by kernel_rfl) fun K' hK'=>?_;simp only [bz];(with_reducible repeat' (first|(apply WL.fin;apply hK';clear hK' K')|(refine WL.step fun K2 hK2=>?_;simp only [simprocAttr,az];repeat' (first|(apply hK2;clear hK2 K2)|apply And.intro|intro hb))));all_goals ((try simp only [zb,za,reduceIte,Nat.reduceEqDiff]);(try ((repeat ((fail_if_success apply hK);clear hK K));apply hK;clear hK K))))
     repeat' (first|refine T.zh fun K hK=>?_|apply T.block|apply T.skip|apply T.exit|refine T.zg rfl ?_|refine T.zf rfl ?_|refine T.cond rfl (fun hc=>?_) (fun hc=>?_)|apply T.ret|simp only [zb,za,reduceIte,Nat.reduceEqDiff]|((repeat ((fail_if_success apply hK);clear hK K));apply hK;clear hK K))
     (refine T.reg (by kernel_rfl) fun K' hK'=>?_;simp only [bz];(with_reducible repeat' (first|(apply WL.fin;apply hK';clear hK' K')|(refine WL.step fun K2 hK2=>?_;simp only [simprocAttr,az,hS,qw,qm iG,z5V,nI,zL hB hR ht,z03 hB hR ht,Option.isSome_some];repeat' (first|(apply hK2;clear hK2 K2)|apply And.intro|intro hb))));all_goals ((try simp only [zb,za,reduceIte,Nat.reduceEqDiff]);(try ((repeat ((fail_if_success apply hK);clear hK K));apply hK;clear hK K))))
     repeat' (first|refine T.zh fun K hK=>?_|apply T.block|apply T.skip|apply T.exit|refine T.zg rfl ?_|refine T.zf rfl ?_|refine T.cond rfl (fun hc=>?_) (fun hc=>?_)|apply T.ret|simp only [zb,za,reduceIte,Nat.reduceEqDiff]|((repeat ((fail_if_success apply hK);clear hK K));apply hK;clear hK K))
     (refine T.reg (by kernel_rfl) fun K' hK'=>?_;simp only [bz];(with_reducible repeat' (first|(apply WL.fin;apply hK';clear hK' K')|(refine WL.step fun K2 hK2=>?_;simp only [simprocAttr,az];repeat' (first|(apply hK2;clear hK2 K2)|apply And.intro|intro hb))));all_goals ((try simp only [zb,za,reduceIte,Nat.reduceEqDiff]);(try ((repeat ((fail_if_success apply hK);clear hK K));apply hK;clear hK K))))
     repeat' (first|refine T.zh fun K hK=>?_|apply T.block|apply T.skip|apply T.exit|refine T.zg rfl ?_|refine T.zf rfl ?_|refine T.cond rfl (fun hc=>?_) (fun hc=>?_)|apply T.ret|simp only [zb,za,reduceIte,Nat.reduceEqDiff]|((repeat ((fail_if_success apply hK);clear hK K));apply hK;clear hK K))
     refine T.regI (by kernel_rfl) fun K' hK'=>?_;simp only [List.map_cons,List.map_nil]
     iterate 6 ((with_reducible refine WLI.z06 fun K2 hK2=>?_);simp only [simprocAttr,az];(repeat' (first|with_reducible (first|(apply hK2;clear hK2 K2)|apply And.intro|intro hb))))
     (with_reducible refine WLI.z7Y fun K2 hK2=>?_);simp only [WSY,WY,simprocAttr,az];(refine z5q.of 2000000 (ownI B l e s) (H (acc)) (H (acc ++ [⟨i,s.j,e.kind⟩])) _ _ _ rfl (z0H hB _ _ _) ?_ (hH _) hyc0 hlk0 (z8e hh _ _) (by decide) (by simp [AV.okB,AV.z0b]) ?_);(focus (simp only [z1m hB,List.map_cons,AO.z1A,AV.z0F,List.map_nil,evC];done));apply hK2;clear hK2 K2;(refine WLI.weak (zk.hpe _ (ownI B l e s++H (acc ++ [⟨i,s.j,e.kind⟩])) (z3g (z0H hB _ _ _) (hH _))) ?_);simp only [List.map_cons,List.map_nil,AV.z0E,AV.z0D,AV.z0o,AV.z0X,AV.z0F,AV.z0V,AV.z0a,AV.z0p,AV.z1J,AV.z0T,AV.z0U,Nat.reduceLeDiff,true_or,reduceIte,List.mem_singleton,or_true,ownI,List.cons_append,qJ,tys]
     (with_reducible refine WLI.z06 fun K2 hK2=>?_);simp only [simprocAttr,az];(repeat' (first|with_reducible (first|(apply hK2;clear hK2 K2)|apply And.intro|intro hb)))
     (with_reducible refine WLI.fin ?_);apply hK';clear hK' K';(try simp only [zb,za,reduceIte,Nat.reduceEqDiff]);(try ((repeat ((fail_if_success apply hK);clear hK K));apply hK;clear hK K))
     repeat' (first|refine T.zh fun K hK=>?_|apply T.block|(refine T.reg (by kernel_rfl) fun K' hK'=>?_;simp only [bz];(with_reducible repeat' (first|(apply WL.fin;apply hK';clear hK' K')|(refine WL.step fun K2 hK2=>?_;simp only [simprocAttr,az];repeat' (first|(apply hK2;clear hK2 K2)|apply And.intro|intro hb)))))|apply T.skip|apply T.exit|refine T.zg rfl ?_|refine T.zf rfl ?_|refine T.cond rfl (fun hc=>?_) (fun hc=>?_)|apply T.ret|simp only [zb,za,reduceIte,Nat.reduceEqDiff]|((repeat ((fail_if_success apply hK);clear hK K));apply hK;clear hK K))
     refine zk.frm _ _ _ _ (fun t=>?_) (by simp only [wks,reduceIte,Nat.reduceEqDiff,implies_true,and_self,frI,hy6,]) (by simp only [wks,AV.okB,Nat.reduceLT,decide_true,List.all_cons,List.all_nil,Bool.and_self,frI,hy6,]) ?_;(focus (first|rfl|(simp only [ownI,List.cons_append];done)));exact qL hB hl hs (hH _)
    | none =>
     have hrA:z2Y l e s.j = []:=by rw [z2Y,hA,hS]
     rw [hrA,List.append_nil] at hK
     repeat' (first|refine T.zh fun K hK=>?_|apply T.block|(refine T.reg (by kernel_rfl) fun K' hK'=>?_;simp only [bz];(with_reducible repeat' (first|(apply WL.fin;apply hK';clear hK' K')|(refine WL.step fun K2 hK2=>?_;simp only [simprocAttr,az,hA,hS,qw,qm iG,z5V,nI,zL hB hR ht,z03 hB hR ht,Option.isSome_none];repeat' (first|(apply hK2;clear hK2 K2)|apply And.intro|intro hb)))))|apply T.skip|apply T.exit|refine T.zg rfl ?_|refine T.zf rfl ?_|refine T.cond rfl (fun hc=>?_) (fun hc=>?_)|apply T.ret|simp only [zb,za,reduceIte,Nat.reduceEqDiff]|((repeat ((fail_if_success apply hK);clear hK K));apply hK;clear hK K))
     refine zk.frm _ _ _ _ (fun t=>?_) (by simp only [wks,reduceIte,Nat.reduceEqDiff,implies_true,and_self,frI,hy6,]) (by simp only [wks,AV.okB,Nat.reduceLT,decide_true,List.all_cons,List.all_nil,Bool.and_self,frI,hy6,]) ?_;(focus (first|rfl|(simp only [ownI,List.cons_append];done)));exact qL hB hl hs (hH _)
  intro s' hw
  refine hK s' ?_
  refine T.weak hw ?_
  clear hK hw s' K ht
  obtain ⟨acc1,hacc1⟩ : ∃ a,a=acc++z2Y l e s.j:=⟨_,rfl⟩
  rw [← hacc1]
  rw [← List.append_assoc,← hacc1] at hrest
  have ht:=hH acc1
  refine T.zh fun K hK=>?_
  suffices hmid : ∀ s',zk s' ⟨frI l y s.j,ownI B l e s++H (acc1++z0I l e s.j (atL l e.obj e.off s.j)),190,5000006⟩→K s' by
   clear hK
   have hK:=hmid
   clear hmid
   simp only [frI,ownI,List.cons_append]
   cases hM:s.m e.obj e.off with
   | none =>
    have hrI:z0I l e s.j (atL l e.obj e.off s.j) = []:=by rw [hs.none _ _ hM];rfl
    rw [hrI,List.append_nil] at hK
    have hat:atM B s.m (kyl e.obj e.off)=none:=by rw [atM,z5M _ iO iF,hM];rfl
    repeat' (first|refine T.zh fun K hK=>?_|apply T.block|(refine T.reg (by kernel_rfl) fun K' hK'=>?_;simp only [bz];(with_reducible repeat' (first|(apply WL.fin;apply hK';clear hK' K')|(refine WL.step fun K2 hK2=>?_;simp only [simprocAttr,az,z0Z,z0S iO iF,hat,zL hB hR ht,z03 hB hR ht];repeat' (first|(apply hK2;clear hK2 K2)|apply And.intro|intro hb)))))|apply T.skip|apply T.exit|refine T.zg rfl ?_|refine T.zf rfl ?_|refine T.cond rfl (fun hc=>?_) (fun hc=>?_)|apply T.ret|simp only [zb,za,reduceIte,Nat.reduceEqDiff]|((repeat ((fail_if_success apply hK);clear hK K));apply hK;clear hK K))
    refine T.qC (fun q:Nat=>⟨frI l y s.j ++ [(70,.int 0),(71,.int 0)],ownI B l e s++H acc1,190,5000006⟩) (fun q=>q=0) (fun q => 0) 0 rfl (by refine zk.frm _ _ _ _ (fun t=>?_) (by simp only [wks,reduceIte,Nat.reduceEqDiff,implies_true,and_self,frI,hy6,List.cons_append,List.nil_append]) (by simp only [wks,AV.okB,Nat.reduceLT,decide_true,List.all_cons,List.all_nil,Bool.and_self,frI,hy6,List.cons_append,List.nil_append]) ?_;(focus (first|rfl|(simp only [ownI,List.cons_append];done)));exact qL hB hl hs (hH _)) ?_
    rintro q rfl KL hKL
    simp only [frI,ownI,List.cons_append,List.nil_append]
    have hd0:decide ((0:Int)<0)=false:=by decide
    repeat' (first|refine T.zh fun K hK=>?_|apply T.block|(refine T.reg (by kernel_rfl) fun K' hK'=>?_;simp only [bz];(with_reducible repeat' (first|(apply WL.fin;apply hK';clear hK' K')|(refine WL.step fun K2 hK2=>?_;simp only [simprocAttr,az,hd0];repeat' (first|(apply hK2;clear hK2 K2)|apply And.intro|intro hb)))))|apply T.skip|apply T.exit|refine T.zg rfl ?_|refine T.zf rfl ?_|refine T.cond rfl (fun hc=>?_) (fun hc=>?_)|apply T.ret|simp only [zb,za,reduceIte,Nat.reduceEqDiff]|((repeat ((fail_if_success apply hK);clear hK K));apply hK;clear hK K))
    refine zk.frm _ _ _ _ (fun t=>?_) (by simp only [wks,reduceIte,Nat.reduceEqDiff,implies_true,and_self,frI,hy6,]) (by simp only [wks,AV.okB,Nat.reduceLT,decide_true,List.all_cons,List.all_nil,Bool.and_self,frI,hy6,]) ?_;(focus (first|rfl|(simp only [ownI,List.cons_append];done)));exact qL hB hl hs (hH _)
   | some i =>
    obtain ⟨r,hr⟩ : ∃ r,r=atL l e.obj e.off s.j:=⟨_,rfl⟩
    have hrow:=hs.row _ _ _ hM
    rw [← hr] at hrow hK
    have hrw:=tl_row (B:=B) ht (z6B hrow)
    have hat:atM B s.m (kyl e.obj e.off)=some (.own (i+B)):=by rw [atM,z5M _ iO iF,hM];rfl
    have hi6:i<1000000:=by have:=(List.getElem?_eq_some_iff.1 hrow).1;have:=hs.R;have:=hs.j;omega
    have n0:(i+B=5000000)=False:=by simp;omega
    have n1:(i+B=5000001)=False:=by simp;omega
    have n2:(i+B=5000002)=False:=by simp;omega
    have n3:(i+B=5000003)=False:=by simp;omega
    have n4:(i+B=5000004)=False:=by simp;omega
    have n5:(i+B=5000005)=False:=by simp;omega
    have n6:(i+B=5000006)=False:=by simp;omega
    have hi7:(i+B<5000006)=True:=by simp;omega
    have hi8:(i+B<5000007)=True:=by simp;omega
    have hiB:(2000000≤i+B)=True:=by simp;omega
    have hrn:r.length≤1000000:=by
     rw [hr]
     have:=List.length_filter_le (fun k=>(l[k]?).any (z3t e.obj e.off)) (List.range s.j)
     rw [List.length_range] at this
     have h2:=hs.j
     unfold atL
     omega
    repeat' (first|refine T.zh fun K hK=>?_|apply T.block|(refine T.reg (by kernel_rfl) fun K' hK'=>?_;simp only [bz];(with_reducible repeat' (first|(apply WL.fin;apply hK';clear hK' K')|(refine WL.step fun K2 hK2=>?_;simp only [simprocAttr,az,z0Z,z0S iO iF,hat,zL hB hR ht,z03 hB hR ht,hrw,z04,n0,n1,n2,n3,n4,n5,n6];repeat' (first|(apply hK2;clear hK2 K2)|apply And.intro|intro hb)))))|apply T.skip|apply T.exit|refine T.zg rfl ?_|refine T.zf rfl ?_|refine T.cond rfl (fun hc=>?_) (fun hc=>?_)|apply T.ret|simp only [zb,za,reduceIte,Nat.reduceEqDiff]|((repeat ((fail_if_success apply hK);clear hK K));apply hK;clear hK K))
    refine T.qC (fun q:Nat=>⟨frI l y s.j ++ [(69,.own (i+B)),(70,.int r.length),(71,.int q)],ownI B l e s++H (acc1++z0I l e s.j (r.take q)),190,5000006⟩) (fun q=>q≤r.length) (fun q=>r.length-q) 0 (Nat.zero_le _) ?_ ?_
    ·have h0:acc1++z0I l e s.j (r.take 0)=acc1:=by simp [z0I]
     simp only [h0]
     refine zk.frm _ _ _ _ (fun t=>?_) (by simp only [wks,reduceIte,Nat.reduceEqDiff,implies_true,and_self,frI,hy6,hi7,List.cons_append,List.nil_append,Int.natCast_zero]) (by simp only [wks,AV.okB,Nat.reduceLT,decide_true,List.all_cons,List.all_nil,Bool.and_self,frI,hy6,hi7,List.cons_append,List.nil_append,Int.natCast_zero]) ?_;(focus (first|rfl|(simp only [ownI,List.cons_append];done)));exact qL hB hl hs (hH _)
    intro q hq KL hKL
    obtain ⟨acc2,hacc2⟩ : ∃ a,a=acc1++z0I l e s.j (r.take q):=⟨_,rfl⟩
    rw [← hacc2]
    have ht2:=hH acc2
    have hrw2:=tl_row (B:=B) ht2 (z6B hrow)
    simp only [frI,ownI,List.cons_append,List.nil_append]
    by_cases hqr:q<r.length
    ·have hdq:decide ((q:Int)<(r.length:Int))=true:=by simpa using hqr
     obtain ⟨ii,hii⟩:=zQ hqr
     obtain ⟨hij,_⟩:=atL_mem (hr ▸ List.mem_of_getElem? hii)
     obtain ⟨f,hf⟩:=zQ (show ii<l.length by omega)
     have hrat:=z3p hii
     repeat' (first|refine T.zh fun K hK=>?_|apply T.block|apply T.skip|apply T.exit|refine T.zg rfl ?_|refine T.zf rfl ?_|refine T.cond rfl (fun hc=>?_) (fun hc=>?_)|apply T.ret|simp only [zb,za,reduceIte,Nat.reduceEqDiff]|((repeat ((fail_if_success apply hK);clear hK K));apply hK;clear hK K))
     (refine T.reg (by kernel_rfl) fun K' hK'=>?_;simp only [bz];(with_reducible repeat' (first|(apply WL.fin;apply hK';clear hK' K')|(refine WL.step fun K2 hK2=>?_;simp only [simprocAttr,az,hdq];repeat' (first|(apply hK2;clear hK2 K2)|apply And.intro|intro hb))));all_goals ((try simp only [zb,za,reduceIte,Nat.reduceEqDiff]);(try ((repeat ((fail_if_success apply hK);clear hK K));apply hK;clear hK K))))
     repeat' (first|refine T.zh fun K hK=>?_|apply T.block|apply T.skip|apply T.exit|refine T.zg rfl ?_|refine T.zf rfl ?_|refine T.cond rfl (fun hc=>?_) (fun hc=>?_)|apply T.ret|simp only [zb,za,reduceIte,Nat.reduceEqDiff]|((repeat ((fail_if_success apply hK);clear hK K));apply hK;clear hK K))
     (refine T.reg (by kernel_rfl) fun K' hK'=>?_;simp only [bz];(with_reducible repeat' (first|(apply WL.fin;apply hK';clear hK' K')|(refine WL.step fun K2 hK2=>?_;simp only [simprocAttr,az,hqr,hrw2,hrat,z04,zL hB hR ht2,z03 hB hR ht2,n0,n1,n2,n3,n4,n5,n6];repeat' (first|(apply hK2;clear hK2 K2)|apply And.intro|intro hb))));all_goals ((try simp only [zb,za,reduceIte,Nat.reduceEqDiff]);(try ((repeat ((fail_if_success apply hK);clear hK K));apply hK;clear hK K))))
     repeat' (first|refine T.zh fun K hK=>?_|apply T.block|apply T.skip|apply T.exit|refine T.zg rfl ?_|refine T.zf rfl ?_|refine T.cond rfl (fun hc=>?_) (fun hc=>?_)|apply T.ret|simp only [zb,za,reduceIte,Nat.reduceEqDiff]|((repeat ((fail_if_success apply hK);clear hK K));apply hK;clear hK K))
     (refine T.reg (by kernel_rfl) fun K' hK'=>?_;simp only [bz];(with_reducible repeat' (first|(apply WL.fin;apply hK';clear hK' K')|(refine WL.step fun K2 hK2=>?_;simp only [simprocAttr,az,hf,evC,zL hB hR ht2,z03 hB hR ht2];repeat' (first|(apply hK2;clear hK2 K2)|apply And.intro|intro hb))));all_goals ((try simp only [zb,za,reduceIte,Nat.reduceEqDiff]);(try ((repeat ((fail_if_success apply hK);clear hK K));apply hK;clear hK K))))
     refine T.zh fun K hK=>?_
     suffices hmid : ∀ s',zk s' ⟨frI l y s.j ++ [(69,.own (i+B)),(70,.int r.length),(71,.int q),(15,.int ii),(16,.ptr 5000006 0),(17,.bool (z5o f e))],(5000006,AO.boxP none 30 [.p (.val (.int .i64 f.g)),.p (.val (.int .i64 f.kind)),.p (.val (.int .i64 f.obj)),.p (.val (.int .i64 f.off)),.p (.val (.int .i64 f.k)),.p (.val (.int .i64 f.n)),.p (.val (.int .i64 f.fn)),.p (.val (.int .i64 f.pc)),.p (.val (.int .i64 f.st))]) :: (ownI B l e s++H acc2),190,5000007⟩→K s' by
      clear hK
      have hK:=hmid
      clear hmid
      cases c15:(f.kind==15) with
      | false =>
       (refine T.reg (by kernel_rfl) fun K' hK'=>?_;simp only [bz];(with_reducible repeat' (first|(apply WL.fin;apply hK';clear hK' K')|(refine WL.step fun K2 hK2=>?_;simp only [simprocAttr,az,c15,zL hB hR ht2];repeat' (first|(apply hK2;clear hK2 K2)|apply And.intro|intro hb))));all_goals ((try simp only [zb,za,reduceIte,Nat.reduceEqDiff]);(try ((repeat ((fail_if_success apply hK);clear hK K));apply hK;clear hK K))))
       refine zk.frm _ _ _ _ (fun t=>?_) (by simp only [wks,reduceIte,Nat.reduceEqDiff,implies_true,and_self,frI,hy6,hy7,hi7,hi8,List.cons_append,List.nil_append,z5o,c15,Bool.false_and]) (by simp only [wks,AV.okB,Nat.reduceLT,decide_true,List.all_cons,List.all_nil,Bool.and_self,frI,hy6,hy7,hi7,hi8,List.cons_append,List.nil_append,z5o,c15,Bool.false_and]) ?_;(focus (first|rfl|(simp only [ownI,List.cons_append];done)));exact z3X hB hl hs (hH _)
      | true =>
       cases c18:(e.kind==18) with
       | false =>
        (refine T.reg (by kernel_rfl) fun K' hK'=>?_;simp only [bz];(with_reducible repeat' (first|(apply WL.fin;apply hK';clear hK' K')|(refine WL.step fun K2 hK2=>?_;simp only [simprocAttr,az,c15,c18,zL hB hR ht2];repeat' (first|(apply hK2;clear hK2 K2)|apply And.intro|intro hb))));all_goals ((try simp only [zb,za,reduceIte,Nat.reduceEqDiff]);(try ((repeat ((fail_if_success apply hK);clear hK K));apply hK;clear hK K))))
        refine zk.frm _ _ _ _ (fun t=>?_) (by simp only [wks,reduceIte,Nat.reduceEqDiff,implies_true,and_self,frI,hy6,hy7,hi7,hi8,List.cons_append,List.nil_append,z5o,c15,c18,Bool.true_and,Bool.false_and]) (by simp only [wks,AV.okB,Nat.reduceLT,decide_true,List.all_cons,List.all_nil,Bool.and_self,frI,hy6,hy7,hi7,hi8,List.cons_append,List.nil_append,z5o,c15,c18,Bool.true_and,Bool.false_and]) ?_;(focus (first|rfl|(simp only [ownI,List.cons_append];done)));exact z3X hB hl hs (hH _)
       | true =>
        (refine T.reg (by kernel_rfl) fun K' hK'=>?_;simp only [bz];(with_reducible repeat' (first|(apply WL.fin;apply hK';clear hK' K')|(refine WL.step fun K2 hK2=>?_;simp only [simprocAttr,az,c15,c18,zL hB hR ht2];repeat' (first|(apply hK2;clear hK2 K2)|apply And.intro|intro hb))));all_goals ((try simp only [zb,za,reduceIte,Nat.reduceEqDiff]);(try ((repeat ((fail_if_success apply hK);clear hK K));apply hK;clear hK K))))
        refine zk.frm _ _ _ _ (fun t=>?_) (by simp only [wks,reduceIte,Nat.reduceEqDiff,implies_true,and_self,frI,hy6,hy7,hi7,hi8,List.cons_append,List.nil_append,z5o,c15,c18,Bool.true_and]) (by simp only [wks,AV.okB,Nat.reduceLT,decide_true,List.all_cons,List.all_nil,Bool.and_self,frI,hy6,hy7,hi7,hi8,List.cons_append,List.nil_append,z5o,c15,c18,Bool.true_and]) ?_;(focus (first|rfl|(simp only [ownI,List.cons_append];done)));exact z3X hB hl hs (hH _)
     intro s' hw
     refine hK s' ?_
     refine T.weak hw ?_
     clear hK hw s' K
     refine T.zh fun K hK=>?_
     suffices hmid : ∀ s',zk s' ⟨frI l y s.j ++ [(69,.own (i+B)),(70,.int r.length),(71,.int q),(15,.int ii),(16,.ptr 5000006 0),(17,.bool (z5o f e)),(18,.bool (z5A f e))],(5000006,AO.boxP none 30 [.p (.val (.int .i64 f.g)),.p (.val (.int .i64 f.kind)),.p (.val (.int .i64 f.obj)),.p (.val (.int .i64 f.off)),.p (.val (.int .i64 f.k)),.p (.val (.int .i64 f.n)),.p (.val (.int .i64 f.fn)),.p (.val (.int .i64 f.pc)),.p (.val (.int .i64 f.st))]) :: (ownI B l e s++H acc2),190,5000007⟩→K s' by
      clear hK
      have hK:=hmid
      clear hmid
      simp only [frI,ownI,List.cons_append,List.nil_append]
      cases c17:(f.kind==17) with
      | false =>
       (refine T.reg (by kernel_rfl) fun K' hK'=>?_;simp only [bz];(with_reducible repeat' (first|(apply WL.fin;apply hK';clear hK' K')|(refine WL.step fun K2 hK2=>?_;simp only [simprocAttr,az,c17,zL hB hR ht2];repeat' (first|(apply hK2;clear hK2 K2)|apply And.intro|intro hb))));all_goals ((try simp only [zb,za,reduceIte,Nat.reduceEqDiff]);(try ((repeat ((fail_if_success apply hK);clear hK K));apply hK;clear hK K))))
       refine zk.frm _ _ _ _ (fun t=>?_) (by simp only [wks,reduceIte,Nat.reduceEqDiff,implies_true,and_self,frI,hy6,hy7,hi7,hi8,List.cons_append,List.nil_append,z5A,c17,Bool.false_and]) (by simp only [wks,AV.okB,Nat.reduceLT,decide_true,List.all_cons,List.all_nil,Bool.and_self,frI,hy6,hy7,hi7,hi8,List.cons_append,List.nil_append,z5A,c17,Bool.false_and]) ?_;(focus (first|rfl|(simp only [ownI,List.cons_append];done)));exact z3X hB hl hs (hH _)
      | true =>
       cases c16:(e.kind==16) with
       | false =>
        (refine T.reg (by kernel_rfl) fun K' hK'=>?_;simp only [bz];(with_reducible repeat' (first|(apply WL.fin;apply hK';clear hK' K')|(refine WL.step fun K2 hK2=>?_;simp only [simprocAttr,az,c17,c16,zL hB hR ht2];repeat' (first|(apply hK2;clear hK2 K2)|apply And.intro|intro hb))));all_goals ((try simp only [zb,za,reduceIte,Nat.reduceEqDiff]);(try ((repeat ((fail_if_success apply hK);clear hK K));apply hK;clear hK K))))
        refine zk.frm _ _ _ _ (fun t=>?_) (by simp only [wks,reduceIte,Nat.reduceEqDiff,implies_true,and_self,frI,hy6,hy7,hi7,hi8,List.cons_append,List.nil_append,z5A,c17,c16,Bool.true_and,Bool.false_and]) (by simp only [wks,AV.okB,Nat.reduceLT,decide_true,List.all_cons,List.all_nil,Bool.and_self,frI,hy6,hy7,hi7,hi8,List.cons_append,List.nil_append,z5A,c17,c16,Bool.true_and,Bool.false_and]) ?_;(focus (first|rfl|(simp only [ownI,List.cons_append];done)));exact z3X hB hl hs (hH _)
       | true =>
        (refine T.reg (by kernel_rfl) fun K' hK'=>?_;simp only [bz];(with_reducible repeat' (first|(apply WL.fin;apply hK';clear hK' K')|(refine WL.step fun K2 hK2=>?_;simp only [simprocAttr,az,c17,c16,zL hB hR ht2];repeat' (first|(apply hK2;clear hK2 K2)|apply And.intro|intro hb))));all_goals ((try simp only [zb,za,reduceIte,Nat.reduceEqDiff]);(try ((repeat ((fail_if_success apply hK);clear hK K));apply hK;clear hK K))))
        refine zk.frm _ _ _ _ (fun t=>?_) (by simp only [wks,reduceIte,Nat.reduceEqDiff,implies_true,and_self,frI,hy6,hy7,hi7,hi8,List.cons_append,List.nil_append,z5A,c17,c16,Bool.true_and]) (by simp only [wks,AV.okB,Nat.reduceLT,decide_true,List.all_cons,List.all_nil,Bool.and_self,frI,hy6,hy7,hi7,hi8,List.cons_append,List.nil_append,z5A,c17,c16,Bool.true_and]) ?_;(focus (first|rfl|(simp only [ownI,List.cons_append];done)));exact z3X hB hl hs (hH _)
     intro s' hw
     refine hK s' ?_
     refine T.weak hw ?_
     clear hK hw s' K
     have hyes:z2q f e=true→(∃ rs,z00 l l.length=acc2++(⟨ii,s.j,e.kind⟩ : Ed) :: rs)∧acc2 ++ [(⟨ii,s.j,e.kind⟩ : Ed)]=acc1++z0I l e s.j (r.take (q+1)):=fun hm=>by
      refine ⟨⟨z0I l e s.j (r.drop (q+1))++(z2o l e s.j++rest),?_⟩,?_⟩
      ·rw [hrest,← hr,z8h l e s.j r q,drop_at hii,z9J l e s.j ii _ f hf,hm,hacc2]
       simp
      ·rw [z5U l e s.j hii hf,hm,hacc2]
       simp
     have hno:z2q f e=false→acc2=acc1++z0I l e s.j (r.take (q+1)):=fun hm=>by
      rw [z5U l e s.j hii hf,hm,hacc2]
      simp
     simp only [frI,ownI,List.cons_append,List.nil_append]
     cases hsn:z5o f e with
     | true =>
      obtain ⟨hpre,hnext⟩:=hyes (by simp [z2q,hsn])
      obtain ⟨lr,sp,fr0,hlk0,hyc0⟩:=hyld acc2 ⟨ii,s.j,e.kind⟩ hpre
      simp only [edC,List.map_cons,List.map_nil] at hyc0
      repeat' (first|refine T.zh fun K hK=>?_|apply T.block|apply T.skip|apply T.exit|refine T.zg rfl ?_|refine T.zf rfl ?_|refine T.cond rfl (fun hc=>?_) (fun hc=>?_)|apply T.ret|simp only [zb,za,reduceIte,Nat.reduceEqDiff]|((repeat ((fail_if_success apply hK);clear hK K));apply hK;clear hK K))
      refine T.regI (by kernel_rfl) fun K' hK'=>?_;simp only [List.map_cons,List.map_nil]
      iterate 18 ((with_reducible refine WLI.z06 fun K2 hK2=>?_);simp only [simprocAttr,az,zL hB hR ht2];(repeat' (first|with_reducible (first|(apply hK2;clear hK2 K2)|apply And.intro|intro hb))))
      (with_reducible refine WLI.z7Y fun K2 hK2=>?_);simp only [WSY,WY,simprocAttr,az,hiB,zL hB hR ht2];(refine z5q.of 2000000 ((5000006,AO.boxP none 30 [.p (.val (.int .i64 f.g)),.p (.val (.int .i64 f.kind)),.p (.val (.int .i64 f.obj)),.p (.val (.int .i64 f.off)),.p (.val (.int .i64 f.k)),.p (.val (.int .i64 f.n)),.p (.val (.int .i64 f.fn)),.p (.val (.int .i64 f.pc)),.p (.val (.int .i64 f.st))]) :: ownI B l e s) (H (acc2)) (H (acc2 ++ [⟨ii,s.j,e.kind⟩])) _ _ _ rfl (z5R (by decide) (z0H hB _ _ _)) ?_ (hH _) hyc0 hlk0 (z8e hh _ _) (by decide) (by simp [AV.okB,AV.z0b]) ?_);(focus (simp only [z1m hB,List.map_cons,AO.z1A,AV.z0F,List.map_nil,evC];done));apply hK2;clear hK2 K2;(refine WLI.weak (zk.hpe _ ((5000006,AO.boxP none 30 [.p (.val (.int .i64 f.g)),.p (.val (.int .i64 f.kind)),.p (.val (.int .i64 f.obj)),.p (.val (.int .i64 f.off)),.p (.val (.int .i64 f.k)),.p (.val (.int .i64 f.n)),.p (.val (.int .i64 f.fn)),.p (.val (.int .i64 f.pc)),.p (.val (.int .i64 f.st))]) :: ownI B l e s++H (acc2 ++ [⟨ii,s.j,e.kind⟩])) (z3g (z5R (by decide) (z0H hB _ _ _)) (hH _))) ?_);simp only [List.map_cons,List.map_nil,AV.z0E,AV.z0D,AV.z0o,AV.z0X,AV.z0F,AV.z0V,AV.z0a,AV.z0p,AV.z1J,AV.z0T,AV.z0U,Nat.reduceLeDiff,true_or,reduceIte,List.mem_singleton,or_true,ownI,List.cons_append,qJ,tys,hiB,zL hB hR ht2]
      iterate 2 ((with_reducible refine WLI.z06 fun K2 hK2=>?_);simp only [simprocAttr,az];(repeat' (first|with_reducible (first|(apply hK2;clear hK2 K2)|apply And.intro|intro hb))))
      (with_reducible refine WLI.fin ?_);apply hK';clear hK' K';(try simp only [zb,za,reduceIte,Nat.reduceEqDiff]);(try ((repeat ((fail_if_success apply hK);clear hK K));apply hK;clear hK K))
      repeat' (first|refine T.zh fun K hK=>?_|apply T.block|(refine T.reg (by kernel_rfl) fun K' hK'=>?_;simp only [bz];(with_reducible repeat' (first|(apply WL.fin;apply hK';clear hK' K')|(refine WL.step fun K2 hK2=>?_;simp only [simprocAttr,az];repeat' (first|(apply hK2;clear hK2 K2)|apply And.intro|intro hb)))))|apply T.skip|apply T.exit|refine T.zg rfl ?_|refine T.zf rfl ?_|refine T.cond rfl (fun hc=>?_) (fun hc=>?_)|apply T.ret|simp only [zb,za,reduceIte,Nat.reduceEqDiff]|((repeat ((fail_if_success apply hK);clear hK K));apply hK;clear hK K))
      rw [hnext]
      refine hKL _ (q+1) ?_ (by omega) (by omega)
      refine zk.subs _ _ _ _ (fun t o ho=>?_) (by simp only [wks,reduceIte,Nat.reduceEqDiff,implies_true,and_self,frI,hy6,hi7,List.cons_append,List.nil_append,zu (show q<1152921504606846976 by omega)]) (by simp only [wks,AV.okB,Nat.reduceLT,decide_true,List.all_cons,List.all_nil,Bool.and_self,frI,hy6,hi7,List.cons_append,List.nil_append,zu (show q<1152921504606846976 by omega)]) (qL hB hl hs (hH _));exact (ze (Nat.ne_of_lt (qL hB hl hs (hH _) t o ho).1)).trans ho
     | false =>
      cases hfz:z5A f e with
      | true =>
       obtain ⟨hpre,hnext⟩:=hyes (by simp [z2q,hfz])
       obtain ⟨lr,sp,fr0,hlk0,hyc0⟩:=hyld acc2 ⟨ii,s.j,e.kind⟩ hpre
       simp only [edC,List.map_cons,List.map_nil] at hyc0
       repeat' (first|refine T.zh fun K hK=>?_|apply T.block|apply T.skip|apply T.exit|refine T.zg rfl ?_|refine T.zf rfl ?_|refine T.cond rfl (fun hc=>?_) (fun hc=>?_)|apply T.ret|simp only [zb,za,reduceIte,Nat.reduceEqDiff]|((repeat ((fail_if_success apply hK);clear hK K));apply hK;clear hK K))
       refine T.regI (by kernel_rfl) fun K' hK'=>?_;simp only [List.map_cons,List.map_nil]
       iterate 18 ((with_reducible refine WLI.z06 fun K2 hK2=>?_);simp only [simprocAttr,az,zL hB hR ht2];(repeat' (first|with_reducible (first|(apply hK2;clear hK2 K2)|apply And.intro|intro hb))))
       (with_reducible refine WLI.z7Y fun K2 hK2=>?_);simp only [WSY,WY,simprocAttr,az,hiB,zL hB hR ht2];(refine z5q.of 2000000 ((5000006,AO.boxP none 30 [.p (.val (.int .i64 f.g)),.p (.val (.int .i64 f.kind)),.p (.val (.int .i64 f.obj)),.p (.val (.int .i64 f.off)),.p (.val (.int .i64 f.k)),.p (.val (.int .i64 f.n)),.p (.val (.int .i64 f.fn)),.p (.val (.int .i64 f.pc)),.p (.val (.int .i64 f.st))]) :: ownI B l e s) (H (acc2)) (H (acc2 ++ [⟨ii,s.j,e.kind⟩])) _ _ _ rfl (z5R (by decide) (z0H hB _ _ _)) ?_ (hH _) hyc0 hlk0 (z8e hh _ _) (by decide) (by simp [AV.okB,AV.z0b]) ?_);(focus (simp only [z1m hB,List.map_cons,AO.z1A,AV.z0F,List.map_nil,evC];done));apply hK2;clear hK2 K2;(refine WLI.weak (zk.hpe _ ((5000006,AO.boxP none 30 [.p (.val (.int .i64 f.g)),.p (.val (.int .i64 f.kind)),.p (.val (.int .i64 f.obj)),.p (.val (.int .i64 f.off)),.p (.val (.int .i64 f.k)),.p (.val (.int .i64 f.n)),.p (.val (.int .i64 f.fn)),.p (.val (.int .i64 f.pc)),.p (.val (.int .i64 f.st))]) :: ownI B l e s++H (acc2 ++ [⟨ii,s.j,e.kind⟩])) (z3g (z5R (by decide) (z0H hB _ _ _)) (hH _))) ?_);simp only [List.map_cons,List.map_nil,AV.z0E,AV.z0D,AV.z0o,AV.z0X,AV.z0F,AV.z0V,AV.z0a,AV.z0p,AV.z1J,AV.z0T,AV.z0U,Nat.reduceLeDiff,true_or,reduceIte,List.mem_singleton,or_true,ownI,List.cons_append,qJ,tys,hiB,zL hB hR ht2]
       iterate 2 ((with_reducible refine WLI.z06 fun K2 hK2=>?_);simp only [simprocAttr,az];(repeat' (first|with_reducible (first|(apply hK2;clear hK2 K2)|apply And.intro|intro hb))))
       (with_reducible refine WLI.fin ?_);apply hK';clear hK' K';(try simp only [zb,za,reduceIte,Nat.reduceEqDiff]);(try ((repeat ((fail_if_success apply hK);clear hK K));apply hK;clear hK K))
       repeat' (first|refine T.zh fun K hK=>?_|apply T.block|(refine T.reg (by kernel_rfl) fun K' hK'=>?_;simp only [bz];(with_reducible repeat' (first|(apply WL.fin;apply hK';clear hK' K')|(refine WL.step fun K2 hK2=>?_;simp only [simprocAttr,az];repeat' (first|(apply hK2;clear hK2 K2)|apply And.intro|intro hb)))))|apply T.skip|apply T.exit|refine T.zg rfl ?_|refine T.zf rfl ?_|refine T.cond rfl (fun hc=>?_) (fun hc=>?_)|apply T.ret|simp only [zb,za,reduceIte,Nat.reduceEqDiff]|((repeat ((fail_if_success apply hK);clear hK K));apply hK;clear hK K))
       rw [hnext]
       refine hKL _ (q+1) ?_ (by omega) (by omega)
       refine zk.subs _ _ _ _ (fun t o ho=>?_) (by simp only [wks,reduceIte,Nat.reduceEqDiff,implies_true,and_self,frI,hy6,hi7,List.cons_append,List.nil_append,zu (show q<1152921504606846976 by omega)]) (by simp only [wks,AV.okB,Nat.reduceLT,decide_true,List.all_cons,List.all_nil,Bool.and_self,frI,hy6,hi7,List.cons_append,List.nil_append,zu (show q<1152921504606846976 by omega)]) (qL hB hl hs (hH _));exact (ze (Nat.ne_of_lt (qL hB hl hs (hH _) t o ho).1)).trans ho
      | false =>
       have hAf:=z8k f.kind e.kind
       cases haf:aftB f.kind e.kind with
       | true =>
        rw [haf] at hAf
        obtain ⟨hpre,hnext⟩:=hyes (by simp [z2q,haf])
        obtain ⟨lr,sp,fr0,hlk0,hyc0⟩:=hyld acc2 ⟨ii,s.j,e.kind⟩ hpre
        simp only [edC,List.map_cons,List.map_nil] at hyc0
        repeat' (first|refine T.zh fun K hK=>?_|apply T.block|apply T.skip|apply T.exit|refine T.zg rfl ?_|refine T.zf rfl ?_|refine T.cond rfl (fun hc=>?_) (fun hc=>?_)|apply T.ret|simp only [zb,za,reduceIte,Nat.reduceEqDiff]|((repeat ((fail_if_success apply hK);clear hK K));apply hK;clear hK K))
        refine T.regI (by kernel_rfl) fun K' hK'=>?_;simp only [List.map_cons,List.map_nil]
        iterate 9 ((with_reducible refine WLI.z06 fun K2 hK2=>?_);simp only [simprocAttr,az,zL hB hR ht2];(repeat' (first|with_reducible (first|(apply hK2;clear hK2 K2)|apply And.intro|intro hb))))
        (with_reducible refine WLI.z06 fun K2 hK2=>?_);simp only [simprocAttr,az];((with_reducible first|apply zl|apply zm);case h=>exact CallV.plain (Ent.of Tryz.func60 (by kernel_rfl) rfl) (hAf) (by simp [AV.okB]));apply hK2;clear hK2 K2
        iterate 8 ((with_reducible refine WLI.z06 fun K2 hK2=>?_);simp only [simprocAttr,az,zL hB hR ht2];(repeat' (first|with_reducible (first|(apply hK2;clear hK2 K2)|apply And.intro|intro hb))))
        (with_reducible refine WLI.z7Y fun K2 hK2=>?_);simp only [WSY,WY,simprocAttr,az,hiB,zL hB hR ht2];(refine z5q.of 2000000 ((5000006,AO.boxP none 30 [.p (.val (.int .i64 f.g)),.p (.val (.int .i64 f.kind)),.p (.val (.int .i64 f.obj)),.p (.val (.int .i64 f.off)),.p (.val (.int .i64 f.k)),.p (.val (.int .i64 f.n)),.p (.val (.int .i64 f.fn)),.p (.val (.int .i64 f.pc)),.p (.val (.int .i64 f.st))]) :: ownI B l e s) (H (acc2)) (H (acc2 ++ [⟨ii,s.j,e.kind⟩])) _ _ _ rfl (z5R (by decide) (z0H hB _ _ _)) ?_ (hH _) hyc0 hlk0 (z8e hh _ _) (by decide) (by simp [AV.okB,AV.z0b]) ?_);(focus (simp only [z1m hB,List.map_cons,AO.z1A,AV.z0F,List.map_nil,evC];done));apply hK2;clear hK2 K2;(refine WLI.weak (zk.hpe _ ((5000006,AO.boxP none 30 [.p (.val (.int .i64 f.g)),.p (.val (.int .i64 f.kind)),.p (.val (.int .i64 f.obj)),.p (.val (.int .i64 f.off)),.p (.val (.int .i64 f.k)),.p (.val (.int .i64 f.n)),.p (.val (.int .i64 f.fn)),.p (.val (.int .i64 f.pc)),.p (.val (.int .i64 f.st))]) :: ownI B l e s++H (acc2 ++ [⟨ii,s.j,e.kind⟩])) (z3g (z5R (by decide) (z0H hB _ _ _)) (hH _))) ?_);simp only [List.map_cons,List.map_nil,AV.z0E,AV.z0D,AV.z0o,AV.z0X,AV.z0F,AV.z0V,AV.z0a,AV.z0p,AV.z1J,AV.z0T,AV.z0U,Nat.reduceLeDiff,true_or,reduceIte,List.mem_singleton,or_true,ownI,List.cons_append,qJ,tys,hiB,zL hB hR ht2]
        iterate 2 ((with_reducible refine WLI.z06 fun K2 hK2=>?_);simp only [simprocAttr,az];(repeat' (first|with_reducible (first|(apply hK2;clear hK2 K2)|apply And.intro|intro hb))))
        (with_reducible refine WLI.fin ?_);apply hK';clear hK' K';(try simp only [zb,za,reduceIte,Nat.reduceEqDiff]);(try ((repeat ((fail_if_success apply hK);clear hK K));apply hK;clear hK K))
        repeat' (first|refine T.zh fun K hK=>?_|apply T.block|(refine T.reg (by kernel_rfl) fun K' hK'=>?_;simp only [bz];(with_reducible repeat' (first|(apply WL.fin;apply hK';clear hK' K')|(refine WL.step fun K2 hK2=>?_;simp only [simprocAttr,az];repeat' (first|(apply hK2;clear hK2 K2)|apply And.intro|intro hb)))))|apply T.skip|apply T.exit|refine T.zg rfl ?_|refine T.zf rfl ?_|refine T.cond rfl (fun hc=>?_) (fun hc=>?_)|apply T.ret|simp only [zb,za,reduceIte,Nat.reduceEqDiff]|((repeat ((fail_if_success apply hK);clear hK K));apply hK;clear hK K))
        rw [hnext]
        refine hKL _ (q+1) ?_ (by omega) (by omega)
        refine zk.subs _ _ _ _ (fun t o ho=>?_) (by simp only [wks,reduceIte,Nat.reduceEqDiff,implies_true,and_self,frI,hy6,hi7,List.cons_append,List.nil_append,zu (show q<1152921504606846976 by omega)]) (by simp only [wks,AV.okB,Nat.reduceLT,decide_true,List.all_cons,List.all_nil,Bool.and_self,frI,hy6,hi7,List.cons_append,List.nil_append,zu (show q<1152921504606846976 by omega)]) (qL hB hl hs (hH _));exact (ze (Nat.ne_of_lt (qL hB hl hs (hH _) t o ho).1)).trans ho
       | false =>
        rw [haf] at hAf
        have hnext:=hno (by simp [z2q,hsn,hfz,haf])
        repeat' (first|refine T.zh fun K hK=>?_|apply T.block|apply T.skip|apply T.exit|refine T.zg rfl ?_|refine T.zf rfl ?_|refine T.cond rfl (fun hc=>?_) (fun hc=>?_)|apply T.ret|simp only [zb,za,reduceIte,Nat.reduceEqDiff]|((repeat ((fail_if_success apply hK);clear hK K));apply hK;clear hK K))
        refine T.regI (by kernel_rfl) fun K' hK'=>?_;simp only [List.map_cons,List.map_nil]
        iterate 9 ((with_reducible refine WLI.z06 fun K2 hK2=>?_);simp only [simprocAttr,az,zL hB hR ht2];(repeat' (first|with_reducible (first|(apply hK2;clear hK2 K2)|apply And.intro|intro hb))))
        (with_reducible refine WLI.z06 fun K2 hK2=>?_);simp only [simprocAttr,az];((with_reducible first|apply zl|apply zm);case h=>exact CallV.plain (Ent.of Tryz.func60 (by kernel_rfl) rfl) (hAf) (by simp [AV.okB]));apply hK2;clear hK2 K2
        iterate 11 ((with_reducible refine WLI.z06 fun K2 hK2=>?_);simp only [simprocAttr,az,zL hB hR ht2];(repeat' (first|with_reducible (first|(apply hK2;clear hK2 K2)|apply And.intro|intro hb))))
        (with_reducible refine WLI.fin ?_);apply hK';clear hK' K';(try simp only [zb,za,reduceIte,Nat.reduceEqDiff]);(try ((repeat ((fail_if_success apply hK);clear hK K));apply hK;clear hK K))
        repeat' (first|refine T.zh fun K hK=>?_|apply T.block|(refine T.reg (by kernel_rfl) fun K' hK'=>?_;simp only [bz];(with_reducible repeat' (first|(apply WL.fin;apply hK';clear hK' K')|(refine WL.step fun K2 hK2=>?_;simp only [simprocAttr,az];repeat' (first|(apply hK2;clear hK2 K2)|apply And.intro|intro hb)))))|apply T.skip|apply T.exit|refine T.zg rfl ?_|refine T.zf rfl ?_|refine T.cond rfl (fun hc=>?_) (fun hc=>?_)|apply T.ret|simp only [zb,za,reduceIte,Nat.reduceEqDiff]|((repeat ((fail_if_success apply hK);clear hK K));apply hK;clear hK K))
        rw [hnext]
        refine hKL _ (q+1) ?_ (by omega) (by omega)
        refine zk.subs _ _ _ _ (fun t o ho=>?_) (by simp only [wks,reduceIte,Nat.reduceEqDiff,implies_true,and_self,frI,hy6,hi7,List.cons_append,List.nil_append,zu (show q<1152921504606846976 by omega)]) (by simp only [wks,AV.okB,Nat.reduceLT,decide_true,List.all_cons,List.all_nil,Bool.and_self,frI,hy6,hi7,List.cons_append,List.nil_append,zu (show q<1152921504606846976 by omega)]) (qL hB hl hs (hH _));exact (ze (Nat.ne_of_lt (qL hB hl hs (hH _) t o ho).1)).trans ho
    ·have hdq:decide ((q:Int)<(r.length:Int))=false:=by simpa using hqr
     repeat' (first|refine T.zh fun K hK=>?_|apply T.block|(refine T.reg (by kernel_rfl) fun K' hK'=>?_;simp only [bz];(with_reducible repeat' (first|(apply WL.fin;apply hK';clear hK' K')|(refine WL.step fun K2 hK2=>?_;simp only [simprocAttr,az,hdq];repeat' (first|(apply hK2;clear hK2 K2)|apply And.intro|intro hb)))))|apply T.skip|apply T.exit|refine T.zg rfl ?_|refine T.zf rfl ?_|refine T.cond rfl (fun hc=>?_) (fun hc=>?_)|apply T.ret|simp only [zb,za,reduceIte,Nat.reduceEqDiff]|((repeat ((fail_if_success apply hK);clear hK K));apply hK;clear hK K))
     rw [hacc2,List.take_of_length_le (by omega)]
     refine zk.frm _ _ _ _ (fun t=>?_) (by simp only [wks,reduceIte,Nat.reduceEqDiff,implies_true,and_self,frI,hy6,]) (by simp only [wks,AV.okB,Nat.reduceLT,decide_true,List.all_cons,List.all_nil,Bool.and_self,frI,hy6,]) ?_;(focus (first|rfl|(simp only [ownI,List.cons_append];done)));exact qL hB hl hs (hH _)
  intro s' hw
  refine hK s' ?_
  refine T.weak hw ?_
  clear hK hw s' K ht
  obtain ⟨acc3,hacc3⟩ : ∃ a,a=acc1++z0I l e s.j (atL l e.obj e.off s.j):=⟨_,rfl⟩
  rw [← hacc3]
  rw [← List.append_assoc,← hacc3] at hrest
  have ht:=hH acc3
  refine T.zh fun K hK=>?_
  suffices hmid : ∀ s',zk s' ⟨frI l y s.j,ownI B l e s++H (acc3++z2o l e s.j),190,5000006⟩→K s' by
   clear hK
   have hK:=hmid
   clear hmid
   simp only [frI,ownI,List.cons_append]
   cases hW:qA l (wrAt e.obj e.off) s.j with
   | none =>
    have hrW:z2o l e s.j = []:=by rw [z2o,hW]
    rw [hrW,List.append_nil] at hK
    repeat' (first|refine T.zh fun K hK=>?_|apply T.block|(refine T.reg (by kernel_rfl) fun K' hK'=>?_;simp only [bz];(with_reducible repeat' (first|(apply WL.fin;apply hK';clear hK' K')|(refine WL.step fun K2 hK2=>?_;simp only [simprocAttr,az,hW,z0Z,z0S iO iF,z3f nI _ iO iF,nI,zL hB hR ht,z03 hB hR ht,Option.isSome_none];repeat' (first|(apply hK2;clear hK2 K2)|apply And.intro|intro hb)))))|apply T.skip|apply T.exit|refine T.zg rfl ?_|refine T.zf rfl ?_|refine T.cond rfl (fun hc=>?_) (fun hc=>?_)|apply T.ret|simp only [zb,za,reduceIte,Nat.reduceEqDiff]|((repeat ((fail_if_success apply hK);clear hK K));apply hK;clear hK K))
    refine zk.frm _ _ _ _ (fun t=>?_) (by simp only [wks,reduceIte,Nat.reduceEqDiff,implies_true,and_self,frI,hy6,]) (by simp only [wks,AV.okB,Nat.reduceLT,decide_true,List.all_cons,List.all_nil,Bool.and_self,frI,hy6,]) ?_;(focus (first|rfl|(simp only [ownI,List.cons_append];done)));exact qL hB hl hs (hH _)
   | some w =>
    cases k3:(e.kind==3) with
    | true =>
     have hrW:z2o l e s.j = [⟨w,s.j,e.kind⟩]:=by rw [z2o,hW];simp [rdK,k3]
     rw [hrW] at hK hrest
     obtain ⟨lr,sp,fr0,hlk0,hyc0⟩:=hyld acc3 ⟨w,s.j,e.kind⟩ ⟨_,hrest⟩
     simp only [edC,List.map_cons,List.map_nil] at hyc0
     repeat' (first|refine T.zh fun K hK=>?_|apply T.block|apply T.skip|apply T.exit|refine T.zg rfl ?_|refine T.zf rfl ?_|refine T.cond rfl (fun hc=>?_) (fun hc=>?_)|apply T.ret|simp only [zb,za,reduceIte,Nat.reduceEqDiff]|((repeat ((fail_if_success apply hK);clear hK K));apply hK;clear hK K))
     (refine T.reg (by kernel_rfl) fun K' hK'=>?_;simp only [bz];(with_reducible repeat' (first|(apply WL.fin;apply hK';clear hK' K')|(refine WL.step fun K2 hK2=>?_;simp only [simprocAttr,az,hW,k3,z0Z,z0S iO iF,z3f nI _ iO iF,nI,zL hB hR ht,z03 hB hR ht,Option.isSome_some];repeat' (first|(apply hK2;clear hK2 K2)|apply And.intro|intro hb))));all_goals ((try simp only [zb,za,reduceIte,Nat.reduceEqDiff]);(try ((repeat ((fail_if_success apply hK);clear hK K));apply hK;clear hK K))))
     repeat' (first|refine T.zh fun K hK=>?_|apply T.block|apply T.skip|apply T.exit|refine T.zg rfl ?_|refine T.zf rfl ?_|refine T.cond rfl (fun hc=>?_) (fun hc=>?_)|apply T.ret|simp only [zb,za,reduceIte,Nat.reduceEqDiff]|((repeat ((fail_if_success apply hK);clear hK K));apply hK;clear hK K))
     (refine T.reg (by kernel_rfl) fun K' hK'=>?_;simp only [bz];(with_reducible repeat' (first|(apply WL.fin;apply hK';clear hK' K')|(refine WL.step fun K2 hK2=>?_;simp only [simprocAttr,az,hW,k3,zL hB hR ht];repeat' (first|(apply hK2;clear hK2 K2)|apply And.intro|intro hb))));all_goals ((try simp only [zb,za,reduceIte,Nat.reduceEqDiff]);(try ((repeat ((fail_if_success apply hK);clear hK K));apply hK;clear hK K))))
     repeat' (first|refine T.zh fun K hK=>?_|apply T.block|apply T.skip|apply T.exit|refine T.zg rfl ?_|refine T.zf rfl ?_|refine T.cond rfl (fun hc=>?_) (fun hc=>?_)|apply T.ret|simp only [zb,za,reduceIte,Nat.reduceEqDiff]|((repeat ((fail_if_success apply hK);clear hK K));apply hK;clear hK K))
     refine T.regI (by kernel_rfl) fun K' hK'=>?_;simp only [List.map_cons,List.map_nil]
     iterate 6 ((with_reducible refine WLI.z06 fun K2 hK2=>?_);simp only [simprocAttr,az,zL hB hR ht];(repeat' (first|with_reducible (first|(apply hK2;clear hK2 K2)|apply And.intro|intro hb))))
     (with_reducible refine WLI.z7Y fun K2 hK2=>?_);simp only [WSY,WY,simprocAttr,az];(refine z5q.of 2000000 (ownI B l e s) (H (acc3)) (H (acc3 ++ [⟨w,s.j,e.kind⟩])) _ _ _ rfl (z0H hB _ _ _) ?_ (hH _) hyc0 hlk0 (z8e hh _ _) (by decide) (by simp [AV.okB,AV.z0b]) ?_);(focus (simp only [z1m hB,List.map_cons,AO.z1A,AV.z0F,List.map_nil,evC];done));apply hK2;clear hK2 K2;(refine WLI.weak (zk.hpe _ (ownI B l e s++H (acc3 ++ [⟨w,s.j,e.kind⟩])) (z3g (z0H hB _ _ _) (hH _))) ?_);simp only [List.map_cons,List.map_nil,AV.z0E,AV.z0D,AV.z0o,AV.z0X,AV.z0F,AV.z0V,AV.z0a,AV.z0p,AV.z1J,AV.z0T,AV.z0U,Nat.reduceLeDiff,true_or,reduceIte,List.mem_singleton,or_true,ownI,List.cons_append,qJ,tys]
     (with_reducible refine WLI.z06 fun K2 hK2=>?_);simp only [simprocAttr,az];(repeat' (first|with_reducible (first|(apply hK2;clear hK2 K2)|apply And.intro|intro hb)))
     (with_reducible refine WLI.fin ?_);apply hK';clear hK' K';(try simp only [zb,za,reduceIte,Nat.reduceEqDiff]);(try ((repeat ((fail_if_success apply hK);clear hK K));apply hK;clear hK K))
     repeat' (first|refine T.zh fun K hK=>?_|apply T.block|(refine T.reg (by kernel_rfl) fun K' hK'=>?_;simp only [bz];(with_reducible repeat' (first|(apply WL.fin;apply hK';clear hK' K')|(refine WL.step fun K2 hK2=>?_;simp only [simprocAttr,az];repeat' (first|(apply hK2;clear hK2 K2)|apply And.intro|intro hb)))))|apply T.skip|apply T.exit|refine T.zg rfl ?_|refine T.zf rfl ?_|refine T.cond rfl (fun hc=>?_) (fun hc=>?_)|apply T.ret|simp only [zb,za,reduceIte,Nat.reduceEqDiff]|((repeat ((fail_if_success apply hK);clear hK K));apply hK;clear hK K))
     refine zk.frm _ _ _ _ (fun t=>?_) (by simp only [wks,reduceIte,Nat.reduceEqDiff,implies_true,and_self,frI,hy6,]) (by simp only [wks,AV.okB,Nat.reduceLT,decide_true,List.all_cons,List.all_nil,Bool.and_self,frI,hy6,]) ?_;(focus (first|rfl|(simp only [ownI,List.cons_append];done)));exact qL hB hl hs (hH _)
    | false =>
     cases k5:(e.kind==5) with
     | true =>
      have hrW:z2o l e s.j = [⟨w,s.j,e.kind⟩]:=by rw [z2o,hW];simp [rdK,k3,k5]
      rw [hrW] at hK hrest
      obtain ⟨lr,sp,fr0,hlk0,hyc0⟩:=hyld acc3 ⟨w,s.j,e.kind⟩ ⟨_,hrest⟩
      simp only [edC,List.map_cons,List.map_nil] at hyc0
      repeat' (first|refine T.zh fun K hK=>?_|apply T.block|apply T.skip|apply T.exit|refine T.zg rfl ?_|refine T.zf rfl ?_|refine T.cond rfl (fun hc=>?_) (fun hc=>?_)|apply T.ret|simp only [zb,za,reduceIte,Nat.reduceEqDiff]|((repeat ((fail_if_success apply hK);clear hK K));apply hK;clear hK K))
      (refine T.reg (by kernel_rfl) fun K' hK'=>?_;simp only [bz];(with_reducible repeat' (first|(apply WL.fin;apply hK';clear hK' K')|(refine WL.step fun K2 hK2=>?_;simp only [simprocAttr,az,hW,k3,k5,z0Z,z0S iO iF,z3f nI _ iO iF,nI,zL hB hR ht,z03 hB hR ht,Option.isSome_some];repeat' (first|(apply hK2;clear hK2 K2)|apply And.intro|intro hb))));all_goals ((try simp only [zb,za,reduceIte,Nat.reduceEqDiff]);(try ((repeat ((fail_if_success apply hK);clear hK K));apply hK;clear hK K))))
      repeat' (first|refine T.zh fun K hK=>?_|apply T.block|apply T.skip|apply T.exit|refine T.zg rfl ?_|refine T.zf rfl ?_|refine T.cond rfl (fun hc=>?_) (fun hc=>?_)|apply T.ret|simp only [zb,za,reduceIte,Nat.reduceEqDiff]|((repeat ((fail_if_success apply hK);clear hK K));apply hK;clear hK K))
      (refine T.reg (by kernel_rfl) fun K' hK'=>?_;simp only [bz];(with_reducible repeat' (first|(apply WL.fin;apply hK';clear hK' K')|(refine WL.step fun K2 hK2=>?_;simp only [simprocAttr,az,hW,k3,k5,zL hB hR ht];repeat' (first|(apply hK2;clear hK2 K2)|apply And.intro|intro hb))));all_goals ((try simp only [zb,za,reduceIte,Nat.reduceEqDiff]);(try ((repeat ((fail_if_success apply hK);clear hK K));apply hK;clear hK K))))
      repeat' (first|refine T.zh fun K hK=>?_|apply T.block|apply T.skip|apply T.exit|refine T.zg rfl ?_|refine T.zf rfl ?_|refine T.cond rfl (fun hc=>?_) (fun hc=>?_)|apply T.ret|simp only [zb,za,reduceIte,Nat.reduceEqDiff]|((repeat ((fail_if_success apply hK);clear hK K));apply hK;clear hK K))
      refine T.regI (by kernel_rfl) fun K' hK'=>?_;simp only [List.map_cons,List.map_nil]
      iterate 6 ((with_reducible refine WLI.z06 fun K2 hK2=>?_);simp only [simprocAttr,az,zL hB hR ht];(repeat' (first|with_reducible (first|(apply hK2;clear hK2 K2)|apply And.intro|intro hb))))
      (with_reducible refine WLI.z7Y fun K2 hK2=>?_);simp only [WSY,WY,simprocAttr,az];(refine z5q.of 2000000 (ownI B l e s) (H (acc3)) (H (acc3 ++ [⟨w,s.j,e.kind⟩])) _ _ _ rfl (z0H hB _ _ _) ?_ (hH _) hyc0 hlk0 (z8e hh _ _) (by decide) (by simp [AV.okB,AV.z0b]) ?_);(focus (simp only [z1m hB,List.map_cons,AO.z1A,AV.z0F,List.map_nil,evC];done));apply hK2;clear hK2 K2;(refine WLI.weak (zk.hpe _ (ownI B l e s++H (acc3 ++ [⟨w,s.j,e.kind⟩])) (z3g (z0H hB _ _ _) (hH _))) ?_);simp only [List.map_cons,List.map_nil,AV.z0E,AV.z0D,AV.z0o,AV.z0X,AV.z0F,AV.z0V,AV.z0a,AV.z0p,AV.z1J,AV.z0T,AV.z0U,Nat.reduceLeDiff,true_or,reduceIte,List.mem_singleton,or_true,ownI,List.cons_append,qJ,tys]
      (with_reducible refine WLI.z06 fun K2 hK2=>?_);simp only [simprocAttr,az];(repeat' (first|with_reducible (first|(apply hK2;clear hK2 K2)|apply And.intro|intro hb)))
      (with_reducible refine WLI.fin ?_);apply hK';clear hK' K';(try simp only [zb,za,reduceIte,Nat.reduceEqDiff]);(try ((repeat ((fail_if_success apply hK);clear hK K));apply hK;clear hK K))
      repeat' (first|refine T.zh fun K hK=>?_|apply T.block|(refine T.reg (by kernel_rfl) fun K' hK'=>?_;simp only [bz];(with_reducible repeat' (first|(apply WL.fin;apply hK';clear hK' K')|(refine WL.step fun K2 hK2=>?_;simp only [simprocAttr,az];repeat' (first|(apply hK2;clear hK2 K2)|apply And.intro|intro hb)))))|apply T.skip|apply T.exit|refine T.zg rfl ?_|refine T.zf rfl ?_|refine T.cond rfl (fun hc=>?_) (fun hc=>?_)|apply T.ret|simp only [zb,za,reduceIte,Nat.reduceEqDiff]|((repeat ((fail_if_success apply hK);clear hK K));apply hK;clear hK K))
      refine zk.frm _ _ _ _ (fun t=>?_) (by simp only [wks,reduceIte,Nat.reduceEqDiff,implies_true,and_self,frI,hy6,]) (by simp only [wks,AV.okB,Nat.reduceLT,decide_true,List.all_cons,List.all_nil,Bool.and_self,frI,hy6,]) ?_;(focus (first|rfl|(simp only [ownI,List.cons_append];done)));exact qL hB hl hs (hH _)
     | false =>
      have hrW:z2o l e s.j = []:=by rw [z2o,hW];simp [rdK,k3,k5]
      rw [hrW,List.append_nil] at hK
      repeat' (first|refine T.zh fun K hK=>?_|apply T.block|(refine T.reg (by kernel_rfl) fun K' hK'=>?_;simp only [bz];(with_reducible repeat' (first|(apply WL.fin;apply hK';clear hK' K')|(refine WL.step fun K2 hK2=>?_;simp only [simprocAttr,az,hW,k3,k5,z0Z,z0S iO iF,z3f nI _ iO iF,nI,zL hB hR ht,z03 hB hR ht,Option.isSome_some];repeat' (first|(apply hK2;clear hK2 K2)|apply And.intro|intro hb)))))|apply T.skip|apply T.exit|refine T.zg rfl ?_|refine T.zf rfl ?_|refine T.cond rfl (fun hc=>?_) (fun hc=>?_)|apply T.ret|simp only [zb,za,reduceIte,Nat.reduceEqDiff]|((repeat ((fail_if_success apply hK);clear hK K));apply hK;clear hK K))
      refine zk.frm _ _ _ _ (fun t=>?_) (by simp only [wks,reduceIte,Nat.reduceEqDiff,implies_true,and_self,frI,hy6,]) (by simp only [wks,AV.okB,Nat.reduceLT,decide_true,List.all_cons,List.all_nil,Bool.and_self,frI,hy6,]) ?_;(focus (first|rfl|(simp only [ownI,List.cons_append];done)));exact qL hB hl hs (hH _)
  intro s' hw
  refine hK s' ?_
  refine T.weak hw ?_
  clear hK hw s' K ht
  obtain ⟨acc4,hacc4⟩ : ∃ a,a=acc3++z2o l e s.j:=⟨_,rfl⟩
  rw [← hacc4]
  have hfin:acc4=z00 l (s.j+1):=by rw [z2P hx,z3K,hacc4,hacc3,hacc1,hacc];simp only [List.append_assoc]
  have ht:=hH acc4
  rw [hfin] at ht ⊢
  clear hfin hrest hacc4 hacc3 hacc1 hacc
  have hmA:s.a<maxLen:=by have:=hs.a;unfold maxLen;omega
  have hmB:s.b<maxLen:=by have:=hs.b;unfold maxLen;omega
  have hmC:s.c<maxLen:=by have:=hs.c;unfold maxLen;omega
  have hmC1:s.c+1<maxLen:=by have:=hs.c;unfold maxLen;omega
  have hmD:s.d<maxLen:=by have:=hs.d;unfold maxLen;omega
  have hj53:s.j<1152921504606846976:=by omega
  simp only [frI,ownI,List.cons_append]
  cases k14:(e.kind==14) with
  | true =>
   have k4:(e.kind==4)=false:=by simp at k14 ⊢;omega
   have k5:(e.kind==5)=false:=by simp at k14 ⊢;omega
   repeat' (first|refine T.zh fun K hK=>?_|apply T.block|(refine T.reg (by kernel_rfl) fun K' hK'=>?_;simp only [bz];(repeat' (first|(with_reducible refine WL.fin ?_;apply hK';clear hK' K')|((with_reducible refine WL.step fun K2 hK2=>?_);simp only [simprocAttr,az,hmA,hmB,hmC,hmC1,hmD,qw,qm iG,z1y hx,zL hB hR ht,z03 hB hR ht,k14,qm (iK (by simpa using k14)),za8 hx k14];(repeat' with_reducible (first|(apply hK2;clear hK2 K2)|apply And.intro|intro hb))))))|apply T.skip|apply T.exit|refine T.zg rfl ?_|refine T.zf rfl ?_|refine T.cond rfl (fun hc=>?_) (fun hc=>?_)|apply T.ret|simp only [zb,za,reduceIte,Nat.reduceEqDiff]|((repeat ((fail_if_success apply hK);clear hK K));apply hK;clear hK K))
   have hs2:ItOk l ⟨s.j+1,s.m,s.R,s.a+1,s.b+1,s.c,s.d⟩:=z3Y hs hx (by simp [pubK,k14]) _ _ _ _ (by have:=hs.a;omega) (by have:=hs.b;omega) (by have:=hs.c;omega) (by have:=hs.d;omega)
   refine hKL _ _ ?_ hs2 (by simp only [];omega)
   refine zk.subs _ _ _ _ (fun t o ho=>?_) (by simp only [wks,reduceIte,Nat.reduceEqDiff,implies_true,and_self,hy4,zu hj53]) (by simp only [wks,AV.okB,Nat.reduceLT,decide_true,List.all_cons,List.all_nil,Bool.and_self,hy4]) (z0K hB hl hs2 (hH _));have h1:=(z0K hB hl hs2 (hH _) t o ho).1;simp only [hpI,z4n hx k4 k5] at ho;exact (ze (by omega)).trans ((ze (by omega)).trans ho)
  | false =>
   cases k4:(e.kind==4) with
   | true =>
    have hw:wrAt e.obj e.off e=true:=by simp [wrAt,k4]
    repeat' (first|refine T.zh fun K hK=>?_|apply T.block|(refine T.reg (by kernel_rfl) fun K' hK'=>?_;simp only [bz];(with_reducible repeat' (first|(apply WL.fin;apply hK';clear hK' K')|(refine WL.step fun K2 hK2=>?_;simp only [simprocAttr,az,hmA,hmB,hmC,hmC1,hmD,qw,qm iG,z1y hx,zL hB hR ht,z03 hB hR ht,k14,k4,z0Z,z0S iO iF,wr_upd hx hw iO iF];repeat' (first|(apply hK2;clear hK2 K2)|apply And.intro|intro hb)))))|apply T.skip|apply T.exit|refine T.zg rfl ?_|refine T.zf rfl ?_|refine T.cond rfl (fun hc=>?_) (fun hc=>?_)|apply T.ret|simp only [zb,za,reduceIte,Nat.reduceEqDiff]|((repeat ((fail_if_success apply hK);clear hK K));apply hK;clear hK K))
    have hs2:ItOk l ⟨s.j+1,s.m,s.R,s.a+1,s.b,s.c,s.d+1⟩:=z3Y hs hx (by simp [pubK,k4]) _ _ _ _ (by have:=hs.a;omega) (by have:=hs.b;omega) (by have:=hs.c;omega) (by have:=hs.d;omega)
    refine hKL _ _ ?_ hs2 (by simp only [];omega)
    refine zk.subs _ _ _ _ (fun t o ho=>?_) (by simp only [wks,reduceIte,Nat.reduceEqDiff,implies_true,and_self,hy4,zu hj53]) (by simp only [wks,AV.okB,Nat.reduceLT,decide_true,List.all_cons,List.all_nil,Bool.and_self,hy4]) (z0K hB hl hs2 (hH _));have h1:=(z0K hB hl hs2 (hH _) t o ho).1;simp only [hpI,z0v hx k14] at ho;exact (ze (by omega)).trans ((ze (by omega)).trans ho)
   | false =>
    cases k5:(e.kind==5) with
    | true =>
     have hw:wrAt e.obj e.off e=true:=by simp [wrAt,k5]
     repeat' (first|refine T.zh fun K hK=>?_|apply T.block|(refine T.reg (by kernel_rfl) fun K' hK'=>?_;simp only [bz];(with_reducible repeat' (first|(apply WL.fin;apply hK';clear hK' K')|(refine WL.step fun K2 hK2=>?_;simp only [simprocAttr,az,hmA,hmB,hmC,hmC1,hmD,qw,qm iG,z1y hx,zL hB hR ht,z03 hB hR ht,k14,k4,k5,z0Z,z0S iO iF,wr_upd hx hw iO iF];repeat' (first|(apply hK2;clear hK2 K2)|apply And.intro|intro hb)))))|apply T.skip|apply T.exit|refine T.zg rfl ?_|refine T.zf rfl ?_|refine T.cond rfl (fun hc=>?_) (fun hc=>?_)|apply T.ret|simp only [zb,za,reduceIte,Nat.reduceEqDiff]|((repeat ((fail_if_success apply hK);clear hK K));apply hK;clear hK K))
     have hs2:ItOk l ⟨s.j+1,s.m,s.R,s.a+1,s.b,s.c,s.d+1⟩:=z3Y hs hx (by simp [pubK,k5]) _ _ _ _ (by have:=hs.a;omega) (by have:=hs.b;omega) (by have:=hs.c;omega) (by have:=hs.d;omega)
     refine hKL _ _ ?_ hs2 (by simp only [];omega)
     refine zk.subs _ _ _ _ (fun t o ho=>?_) (by simp only [wks,reduceIte,Nat.reduceEqDiff,implies_true,and_self,hy4,zu hj53]) (by simp only [wks,AV.okB,Nat.reduceLT,decide_true,List.all_cons,List.all_nil,Bool.and_self,hy4]) (z0K hB hl hs2 (hH _));have h1:=(z0K hB hl hs2 (hH _) t o ho).1;simp only [hpI,z0v hx k14] at ho;exact (ze (by omega)).trans ((ze (by omega)).trans ho)
    | false =>
     cases k1:(e.kind==1) with
     | true =>
      repeat' (first|refine T.zh fun K hK=>?_|apply T.block|(refine T.reg (by kernel_rfl) fun K' hK'=>?_;simp only [bz];(with_reducible repeat' (first|(apply WL.fin;apply hK';clear hK' K')|(refine WL.step fun K2 hK2=>?_;simp only [simprocAttr,az,hmA,hmB,hmC,hmC1,hmD,qw,qm iG,z1y hx,zL hB hR ht,z03 hB hR ht,k14,k4,k5,k1];repeat' (first|(apply hK2;clear hK2 K2)|apply And.intro|intro hb)))))|apply T.skip|apply T.exit|refine T.zg rfl ?_|refine T.zf rfl ?_|refine T.cond rfl (fun hc=>?_) (fun hc=>?_)|apply T.ret|simp only [zb,za,reduceIte,Nat.reduceEqDiff]|((repeat ((fail_if_success apply hK);clear hK K));apply hK;clear hK K))
      have hs2:ItOk l ⟨s.j+1,s.m,s.R,s.a+1,s.b,s.c,s.d⟩:=z3Y hs hx (by simp [pubK,k1]) _ _ _ _ (by have:=hs.a;omega) (by have:=hs.b;omega) (by have:=hs.c;omega) (by have:=hs.d;omega)
      refine hKL _ _ ?_ hs2 (by simp only [];omega)
      refine zk.subs _ _ _ _ (fun t o ho=>?_) (by simp only [wks,reduceIte,Nat.reduceEqDiff,implies_true,and_self,hy4,zu hj53]) (by simp only [wks,AV.okB,Nat.reduceLT,decide_true,List.all_cons,List.all_nil,Bool.and_self,hy4]) (z0K hB hl hs2 (hH _));have h1:=(z0K hB hl hs2 (hH _) t o ho).1;simp only [hpI,z0v hx k14,z4n hx k4 k5] at ho;exact (ze (by omega)).trans ((ze (by omega)).trans ho)
     | false =>
      cases k2:(e.kind==2) with
      | true =>
       repeat' (first|refine T.zh fun K hK=>?_|apply T.block|(refine T.reg (by kernel_rfl) fun K' hK'=>?_;simp only [bz];(with_reducible repeat' (first|(apply WL.fin;apply hK';clear hK' K')|(refine WL.step fun K2 hK2=>?_;simp only [simprocAttr,az,hmA,hmB,hmC,hmC1,hmD,qw,qm iG,z1y hx,zL hB hR ht,z03 hB hR ht,k14,k4,k5,k1,k2];repeat' (first|(apply hK2;clear hK2 K2)|apply And.intro|intro hb)))))|apply T.skip|apply T.exit|refine T.zg rfl ?_|refine T.zf rfl ?_|refine T.cond rfl (fun hc=>?_) (fun hc=>?_)|apply T.ret|simp only [zb,za,reduceIte,Nat.reduceEqDiff]|((repeat ((fail_if_success apply hK);clear hK K));apply hK;clear hK K))
       have hs2:ItOk l ⟨s.j+1,s.m,s.R,s.a+1,s.b,s.c,s.d⟩:=z3Y hs hx (by simp [pubK,k2]) _ _ _ _ (by have:=hs.a;omega) (by have:=hs.b;omega) (by have:=hs.c;omega) (by have:=hs.d;omega)
       refine hKL _ _ ?_ hs2 (by simp only [];omega)
       refine zk.subs _ _ _ _ (fun t o ho=>?_) (by simp only [wks,reduceIte,Nat.reduceEqDiff,implies_true,and_self,hy4,zu hj53]) (by simp only [wks,AV.okB,Nat.reduceLT,decide_true,List.all_cons,List.all_nil,Bool.and_self,hy4]) (z0K hB hl hs2 (hH _));have h1:=(z0K hB hl hs2 (hH _) t o ho).1;simp only [hpI,z0v hx k14,z4n hx k4 k5] at ho;exact (ze (by omega)).trans ((ze (by omega)).trans ho)
      | false =>
       cases k3:(e.kind==3) with
       | true =>
        repeat' (first|refine T.zh fun K hK=>?_|apply T.block|(refine T.reg (by kernel_rfl) fun K' hK'=>?_;simp only [bz];(with_reducible repeat' (first|(apply WL.fin;apply hK';clear hK' K')|(refine WL.step fun K2 hK2=>?_;simp only [simprocAttr,az,hmA,hmB,hmC,hmC1,hmD,qw,qm iG,z1y hx,zL hB hR ht,z03 hB hR ht,k14,k4,k5,k1,k2,k3];repeat' (first|(apply hK2;clear hK2 K2)|apply And.intro|intro hb)))))|apply T.skip|apply T.exit|refine T.zg rfl ?_|refine T.zf rfl ?_|refine T.cond rfl (fun hc=>?_) (fun hc=>?_)|apply T.ret|simp only [zb,za,reduceIte,Nat.reduceEqDiff]|((repeat ((fail_if_success apply hK);clear hK K));apply hK;clear hK K))
        have hs2:ItOk l ⟨s.j+1,s.m,s.R,s.a+1,s.b,s.c,s.d⟩:=z3Y hs hx (by simp [pubK,k3]) _ _ _ _ (by have:=hs.a;omega) (by have:=hs.b;omega) (by have:=hs.c;omega) (by have:=hs.d;omega)
        refine hKL _ _ ?_ hs2 (by simp only [];omega)
        refine zk.subs _ _ _ _ (fun t o ho=>?_) (by simp only [wks,reduceIte,Nat.reduceEqDiff,implies_true,and_self,hy4,zu hj53]) (by simp only [wks,AV.okB,Nat.reduceLT,decide_true,List.all_cons,List.all_nil,Bool.and_self,hy4]) (z0K hB hl hs2 (hH _));have h1:=(z0K hB hl hs2 (hH _) t o ho).1;simp only [hpI,z0v hx k14,z4n hx k4 k5] at ho;exact (ze (by omega)).trans ((ze (by omega)).trans ho)
       | false =>
        have hpk:pubK e.kind=true:=by simp [pubK,k14,k4,k5,k1,k2,k3]
        cases hM:s.m e.obj e.off with
        | some i =>
         obtain ⟨r,hr⟩ : ∃ r,r=atL l e.obj e.off s.j:=⟨_,rfl⟩
         have hrow:=hs.row _ _ _ hM
         rw [← hr] at hrow
         have hrw:=tl_row (B:=B) ht (z6B hrow)
         have hat:atM B s.m (kyl e.obj e.off)=some (.own (i+B)):=by rw [atM,z5M _ iO iF,hM];rfl
         have hi6:i<1000000:=by have:=(List.getElem?_eq_some_iff.1 hrow).1;have:=hs.R;have:=hs.j;omega
         have hR2:(List.map rowI (s.R.set i (r ++ [s.j]))).length≤1000000:=by rw [List.length_map,List.length_set];have:=hs.R;have:=hs.j;omega
         have pyi:(y=i+B)=False:=by simp;omega
         have n0:(i+B=5000000)=False:=by simp;omega
         have m0:(5000000=i+B)=False:=by simp;omega
         have n1:(i+B=5000001)=False:=by simp;omega
         have m1:(5000001=i+B)=False:=by simp;omega
         have n2:(i+B=5000002)=False:=by simp;omega
         have m2:(5000002=i+B)=False:=by simp;omega
         have n3:(i+B=5000003)=False:=by simp;omega
         have m3:(5000003=i+B)=False:=by simp;omega
         have n4:(i+B=5000004)=False:=by simp;omega
         have m4:(5000004=i+B)=False:=by simp;omega
         have n5:(i+B=5000005)=False:=by simp;omega
         have m5:(5000005=i+B)=False:=by simp;omega
         have n6:(i+B=5000006)=False:=by simp;omega
         have m6:(5000006=i+B)=False:=by simp;omega
         have hrn:r.length≤1000000:=by
          rw [hr]
          have:=List.length_filter_le (fun k=>(l[k]?).any (z3t e.obj e.off)) (List.range s.j)
          rw [List.length_range] at this
          have h2:=hs.j
          unfold atL
          omega
         have hb0 : 1≤maxLen:=by unfold maxLen;omega
         have hb1:r.length+1≤maxLen:=by unfold maxLen;omega
         have hb2:(r.length+1)*8≤140737488355328:=by omega
         have hsub:=tl_sub (B:=B) (R:=s.R.map rowI) ht (t:=i+B) AV.zA (by omega)
         have hset:=tl_setI (B:=B) hB (R:=s.R.map rowI) ht i (rowI (r ++ [s.j]))
         repeat' (first|refine T.zh fun K hK=>?_|apply T.block|(refine T.reg (by kernel_rfl) fun K' hK'=>?_;simp only [bz];(with_reducible repeat' (first|(apply WL.fin;apply hK';clear hK' K')|(refine WL.step fun K2 hK2=>?_;simp only [simprocAttr,az,hmA,hmB,hmC,hmC1,hmD,qw,qm iG,z1y hx,zL hB hR ht,z03 hB hR ht,k14,k4,k5,k1,k2,k3,z0Z,z0S iO iF,hat,hrw,z04,hb0,hb1,hb2,hsub,hset,z1k,rowsI_set,AO.z9c,atM_old hs hM iO iF,pyi,z03 hB hR2 ht,zL hB hR2 ht,n0,n1,n2,n3,n4,n5,n6,m0,m1,m2,m3,m4,m5,m6];repeat' (first|(apply hK2;clear hK2 K2)|apply And.intro|intro hb)))))|apply T.skip|apply T.exit|refine T.zg rfl ?_|refine T.zf rfl ?_|refine T.cond rfl (fun hc=>?_) (fun hc=>?_)|apply T.ret|simp only [zb,za,reduceIte,Nat.reduceEqDiff]|((repeat ((fail_if_success apply hK);clear hK K));apply hK;clear hK K))
         have hs2:ItOk l ⟨s.j+1,s.m,s.R.set i (r ++ [s.j]),s.a+1,s.b,s.c+1+1,s.d⟩:=by
          rw [hr]
          exact it_old hs hx hpk hM _ _ _ _ (by have:=hs.a;omega) (by have:=hs.b;omega) (by have:=hs.c;omega) (by have:=hs.d;omega)
         refine hKL _ _ ?_ hs2 (by simp only [];omega)
         refine zk.subs _ _ _ _ (fun t o ho=>?_) (by simp only [wks,reduceIte,Nat.reduceEqDiff,implies_true,and_self,hy4,zu hj53]) (by simp only [wks,AV.okB,Nat.reduceLT,decide_true,List.all_cons,List.all_nil,Bool.and_self,hy4]) (z0K hB hl hs2 (hH _));have h1:=(z0K hB hl hs2 (hH _) t o ho).1;simp only [hpI,z0v hx k14,z4n hx k4 k5] at ho;exact (ze (by omega)).trans ((ze (by omega)).trans ho)
        | none =>
         have hat:atM B s.m (kyl e.obj e.off)=none:=by rw [atM,z5M _ iO iF,hM];rfl
         have hb1 : 1≤maxLen:=by unfold maxLen;omega
         repeat' (first|refine T.zh fun K hK=>?_|apply T.block|(refine T.reg (by kernel_rfl) fun K' hK'=>?_;simp only [bz];(with_reducible repeat' (first|(apply WL.fin;apply hK';clear hK' K')|(refine WL.step fun K2 hK2=>?_;simp only [simprocAttr,az,hmA,hmB,hmC,hmC1,hmD,qw,qm iG,z1y hx,zL hB hR ht,z03 hB hR ht,k14,k4,k5,k1,k2,k3,z0Z,z0S iO iF,hat,hb1];repeat' (first|(apply hK2;clear hK2 K2)|apply And.intro|intro hb)))))|apply T.skip|apply T.exit|refine T.zg rfl ?_|refine T.zf rfl ?_|refine T.cond rfl (fun hc=>?_) (fun hc=>?_)|apply T.ret|simp only [zb,za,reduceIte,Nat.reduceEqDiff]|((repeat ((fail_if_success apply hK);clear hK K));apply hK;clear hK K))
         have hs2:ItOk l ⟨s.j+1,updN s.m e.obj e.off s.R.length,s.R ++ [[s.j]],s.a+1,s.b,s.c+1+1,s.d⟩:=it_new hs hx hpk hM _ _ _ _ (by have:=hs.a;omega) (by have:=hs.b;omega) (by have:=hs.c;omega) (by have:=hs.d;omega)
         have hR1:s.R.length≤1000000:=by have:=hs.R;have:=hs.j;omega
         have hz1:(s.R.length+B<5000007)=True:=by simp;omega
         have p0:(5000000=s.R.length+B)=False:=by simp;omega
         have q0:(5000000 != s.R.length+B)=true:=by simp;omega
         have p1:(5000001=s.R.length+B)=False:=by simp;omega
         have q1:(5000001 != s.R.length+B)=true:=by simp;omega
         have p2:(5000002=s.R.length+B)=False:=by simp;omega
         have q2:(5000002 != s.R.length+B)=true:=by simp;omega
         have p3:(5000003=s.R.length+B)=False:=by simp;omega
         have q3:(5000003 != s.R.length+B)=true:=by simp;omega
         have p4:(5000004=s.R.length+B)=False:=by simp;omega
         have q4:(5000004 != s.R.length+B)=true:=by simp;omega
         have p5:(5000005=s.R.length+B)=False:=by simp;omega
         have q5:(5000005 != s.R.length+B)=true:=by simp;omega
         have p6:(5000006=s.R.length+B)=False:=by simp;omega
         have q6:(5000006 != s.R.length+B)=true:=by simp;omega
         have hne:=tl_ne2 (B:=B) hB hR ht (t := 5000006) (by omega)
         rw [List.length_map] at hne
         have hren:=tl_ren (B:=B) (R:=s.R.map rowI) ht (t := 5000006) (t':=s.R.length+B) (by omega) (by omega)
         have py:(y=5000006)=False:=by simp;omega
         have pz:(y=s.R.length+B)=False:=by simp;omega
         refine hKL _ _ ((zk.ren _ 5000006 (s.R.length+B)).trans ?_) hs2 (by simp only [];omega)
         simp only [ASt.ren,AV.ql,AV.qZ,AV.qH,AV.z0n,AV.z1Q,AV.z0k,AV.qI,AV.qG,AV.z1a,AV.z0m,AV.z0l,AO.z0t,AO.qK,AO.z0C,AO.z0z,List.map_cons,List.map_nil,List.filter_cons,List.filter_nil,zy,qP,reduceIte,Nat.reduceEqDiff,Nat.reduceLT,Nat.reduceBneDiff,bne_self_eq_false,Bool.and_true,Bool.and_false,Bool.true_and,Bool.false_and,Bool.and_self,Bool.false_eq_true,ne_eq,not_false_eq_true,not_true_eq_false,and_self,and_true,true_and,and_false,AO.ren_amap,atM_new hB hl hs _ iO iF,hne,hren,hz1,py,pz,p0,p1,p2,p3,p4,p5,p6,q0,q1,q2,q3,q4,q5,q6]
         refine zk.subs _ _ _ _ (fun t o ho=>?_) (by simp only [wks,reduceIte,Nat.reduceEqDiff,implies_true,and_self,hy4,zu hj53]) (by simp only [wks,AV.okB,Nat.reduceLT,decide_true,List.all_cons,List.all_nil,Bool.and_self,hy4]) (z0K hB hl hs2 (hH _))
         have h1:=(z0K hB hl hs2 (hH _) t o ho).1
         simp only [hpI,z0v hx k14,z4n hx k4 k5] at ho
         rw [hpI_new hB _ _ _ _ hR1] at ho
         exact (skip2 (by omega) (by omega)).trans ho
 ·have hd:decide ((s.j:Int)<(l.length:Int))=false:=by simpa using hlt
  have hjl:s.j=l.length:=by have:=hs.j;omega
  simp only [hpI]
  repeat' (first|refine T.zh fun K hK=>?_|apply T.block|(refine T.reg (by kernel_rfl) fun K' hK'=>?_;simp only [bz];(with_reducible repeat' (first|(apply WL.fin;apply hK';clear hK' K')|(refine WL.step fun K2 hK2=>?_;simp only [simprocAttr,az,hd];repeat' (first|(apply hK2;clear hK2 K2)|apply And.intro|intro hb)))))|apply T.skip|apply T.exit|refine T.zg rfl ?_|refine T.zf rfl ?_|refine T.cond rfl (fun hc=>?_) (fun hc=>?_)|apply T.ret|simp only [zb,za,reduceIte,Nat.reduceEqDiff]|((repeat ((fail_if_success apply hK);clear hK K));apply hK;clear hK K))
  refine FinM.ret (s':=⟨[],H (z00 l l.length),190,2000000⟩) (r := .tup []) (.inl rfl) Tryz.results59 (zk.subs _ _ _ _ (fun t o ho=>?_) (by simp) (by simp) (fun t o h=>(hH _).at' h)) rfl rfl ⟨rfl,rfl⟩
  rw [← hjl] at ho
  exact (lk_end hB ((hH _).at' ho).1 _ _ _ _ _ _).trans ho
theorem T.rangeFS {P:Program} {Q:Exit→ASt→Prop} {s:ASt} {g:Operand} {ps:Array Tmp} {assign body:Code} (gf:FuncId) (caps:List AV) (fr:List (Nat × AV)) (hg:s.ev g = .fn (.func gf) caps) (he:Ent P gf) (hfr : ∀ p ∈ fr,s.get p.1=p.2)
  (hc : ∀ l sp,sp.n=s.n→sp.ps=ps→sp.assign=assign→sp.body=body → ∃ n hp I ks,MemC P gf n hp (.own s.N :: caps) I∧Passes (s.add (.lrec l sp fr)) n hp∧((AV.own s.N :: caps).all (·.okB n))=true ∧ ∀ hp' r,I hp' r→(∀ t ∈ ks,t<n→Kept hp hp' t)∧(∃ fr',hp'.lookup s.N=some (.lrec l sp fr')) ∧
   ∀ ob,Q .normal { (s.add (.lrec l sp fr)).zR n ks hp' with hp:=zF ((s.add (.lrec l sp fr)).zR n ks hp').hp s.N (.raw (.func (.yield l) #[] #[]) ob) }):T Fence.wide P (.rangeFunc g ps assign body) Q s :=
 T.rangeF gf caps fr hg he hfr fun l fn D=>hc l ⟨s.n,fn,ps,assign,body,D⟩ rfl rfl rfl rfl
theorem HRel.congr {L:Nat→Prop} {N:Nat} {hp hp' : Hp} {loc:Nat→Option Value} {w:World} (h:HRel L N hp loc w) (e : ∀ t,hp'.lookup t=hp.lookup t):HRel L N hp' loc w:=⟨fun t o ho=>h.at' t o (e t ▸ ho),fun t ho=>h.dead t (e t ▸ ho),h.apart,h.inL,h.notL⟩
theorem mat_one (e n:Nat) : ∀ (R:List (List (List PV))) (b:Nat),∀ p ∈ mat e n b R,(mat e n b R).lookup p.1=some p.2
 | [],b,p,h=>by cases h
 | r :: R,b,p,h=>by
  rcases List.mem_cons.1 h with h|h
  ·subst h;rw [mat,zi]
  ·have h1:=(z2f e n R (b+1) p h).1
   rw [mat,ze (by omega)]
   exact mat_one e n R (b+1) p h
theorem HpOk.mat {n e m b:Nat} {R:List (List (List PV))} (h:b+R.length≤n):HpOk n (mat e m b R) :=
 ⟨fun p hp=>by
  obtain ⟨h1,h2,r,_,h3⟩:=z2f e m R b p hp
  rw [h3];exact ⟨by omega,rfl⟩,mat_one e m R b⟩
theorem HpOk.cons {n t:Nat} {o:AO} {hp:Hp} (h:HpOk n hp) (ht:t<n) (ho:o.okB n=true) (hn:hp.lookup t=Option.none):HpOk n ((t,o) :: hp) :=
 ⟨fun p hp=>by
  rcases List.mem_cons.1 hp with rfl|h1
  ·exact ⟨ht,ho⟩
  ·exact h.ok p h1,fun p hp=>by
  rcases List.mem_cons.1 hp with rfl|h1
  ·rw [zi]
  ·rw [ze,h.one p h1]
   intro e
   have:=h.one p h1
   rw [e,hn] at this
   cases this⟩
def idM:Nat→Nat→Bool:=fun a b=>b==a
def addE (f:Nat→Nat→Bool) (x:Ed):Nat→Nat→Bool:=fun a b=>if a=x.t.toNat then f a b||(decide (b≤x.f.toNat)&&f x.f.toNat b) else f a b
def fC (acc:List Ed):Nat→Nat→Bool:=acc.foldl addE idM
theorem z7v (l:List Ev):zx Tryz.prog 47 [.p (.seq 9 (l.map evC))] (.fn (.func 59) [.elt [.seq 9 (l.map evC)] 0]):=by
 refine zx.of Tryz.func47 rfl 4 rfl (by decide) (by simp [AV.okB]) ?_
 repeat' (first|refine T.zh fun K hK=>?_|apply T.block|(refine T.reg (by kernel_rfl) fun K' hK'=>?_;simp only [bz];(with_reducible repeat' (first|(apply WL.fin;apply hK';clear hK' K')|(refine WL.step fun K2 hK2=>?_;simp only [simprocAttr,az];repeat' (first|(apply hK2;clear hK2 K2)|apply And.intro|intro hb)))))|apply T.skip|apply T.exit|refine T.zg rfl ?_|refine T.zf rfl ?_|refine T.cond rfl (fun hc=>?_) (fun hc=>?_)|apply T.ret|simp only [zb,za,reduceIte,Nat.reduceEqDiff]|((repeat ((fail_if_success apply hK);clear hK K));apply hK;clear hK K))
 refine zH.retW (.inr rfl) Tryz.results47 (zk.dat _ 0 none 22 [.seq 9 (l.map evC)] rfl) ?_
 simp only [zw,zt,zq,AV.z7Q,AV.z8j,AV.dat_p,AV.dat_fn,List.map_cons,List.map_nil,reduceIte,simprocAttr,implies_true,amz]
theorem z9k (k:Int):zx Tryz.prog 105 [.int k] (.bool (qj k)):=by
 refine zx.of Tryz.func105 rfl 9 rfl (by decide) (by simp [AV.okB]) ?_
 repeat' (first|refine T.zh fun K hK=>?_|apply T.block|(refine T.reg (by kernel_rfl) fun K' hK'=>?_;simp only [bz];(with_reducible repeat' (first|(apply WL.fin;apply hK';clear hK' K')|(refine WL.step fun K2 hK2=>?_;simp only [simprocAttr,az];repeat' (first|(apply hK2;clear hK2 K2)|apply And.intro|intro hb)))))|apply T.skip|apply T.exit|refine T.zg rfl ?_|refine T.zf rfl ?_|refine T.cond rfl (fun hc=>?_) (fun hc=>?_)|apply T.ret|simp only [zb,za,reduceIte,Nat.reduceEqDiff]|((repeat ((fail_if_success apply hK);clear hK K));apply hK;clear hK K))
 all_goals (refine zH.ret (.inr rfl) Tryz.results105 ?_;simp only [zw,zt,zq,simprocAttr,az,];first|(simp [qj, *];done)|(simp_all [qj];done)|(simp_all [qj];omega))
def QS (b:Nat) (s:Ps) (a1 a2 a3:Nat) (o:Option Ps) (hp' : Hp) (r:AV):Prop:=r = .bool o.isSome ∧ ∃ x1 x2 x3,x1≤a1+2∧x2≤a2+2∧x3≤a3+2∧hp' = hpS b (o.getD s) x1 x2 x3
theorem QS.no {b:Nat} {s:Ps} {a1 a2 a3:Nat} {o:Option Ps} (h:o=none):QS b s a1 a2 a3 o (hpS b s a1 a2 a3) (.bool false):=by subst h;exact ⟨rfl,a1,a2,a3,by omega,by omega,by omega,rfl⟩
theorem QS.yes {b:Nat} {s:Ps} {a1 a2 a3:Nat} {o:Option Ps} (t:Ps) (x1 x2 x3:Nat) (h:o=some t) (h1:x1≤a1+2) (h2:x2≤a2+2) (h3:x3≤a3+2):QS b s a1 a2 a3 o (hpS b t x1 x2 x3) (.bool true):=by subst h;exact ⟨rfl,x1,x2,x3,h1,h2,h3,rfl⟩
theorem z9Y (b:Nat) (s:Ps) (a1 a2 a3:Nat) (e:Ev) (kd:Int) (r:List Int) (hk:s.op.kinds=kd :: r) (he:Oki e) (h1:a1<1000000):MemC Tryz.prog 101 4 (hpS b s a1 a2 a3) [.ptr 0 0,evA e] (QS b s a1 a2 a3 (z2j s kd r e)):=by
 have hl:decide ((0:Int)<((r.length+1:Nat):Int))=true:=by simp
 have h1l:(1:Int)≤((r.length+1:Nat):Int):=by omega
 have htk:List.take r.length (r.map fun x => [pI x])=r.map fun x => [pI x]:=List.take_of_length_le (by simp)
 have hdr:List.drop (Int.toNat 1) ([pI kd] :: r.map fun x => [pI x])=r.map fun x => [pI x]:=rfl
 by_cases hf:fitP s.op kd e=true
 ·have hcn:=z3U b (z0e s (z0j s.op e r)) a1 a2 a3 e he h1
  have f1:(e.kind != kd)=false:=by simp_all [fitP]
  have f2:(e.obj != s.op.obj)=false:=by simp_all [fitP]
  have f3:(e.k != s.op.k)=false:=by simp_all [fitP]
  have f4:(e.n != s.op.n)=false:=by simp_all [fitP]
  cases hs:qj e.kind with
  | true =>
   obtain ⟨t,ht⟩ : ∃ t,countP (z0e s (z0j s.op e r)) e=t:=⟨_,rfl⟩
   rw [ht] at hcn
   simp only [z0j,if_pos hs,z0e,hpS,gpC,evA,evC,List.map_cons,List.map_nil] at hcn
   have hsx:=z9k e.kind
   rw [hs] at hsx
   have ho:ownP s.op.snd s.op.rcv e.kind=s.op.snd∧othP s.op.snd s.op.rcv e.kind=s.op.rcv:=by simp [ownP,othP,hs]
   have hpe:hpS b s a1 a2 a3 = [(0,.boxP (some b) 154 [.int s.ev,.int s.gor,.own 1,.own 2,.own 3,.p (.seq 1 ([pI kd] :: r.map fun x => [pI x])),.int s.op.obj,.int s.op.k,.int s.op.n,.int s.op.snd,.int s.op.rcv]),(1,.map none Tryz.prog 3 a1 (inM chV s.ch)),(2,.map none Tryz.prog 147 a2 (plM muV s.mu)),(3,.map none Tryz.prog 147 a3 (plM Value.bool (dnO s.dn)))]:=by simp only [hpS,gpC,hk,List.map_cons]
   rw [hpe]
   simp only [evA,evC,List.map_cons,List.map_nil]
   refine MemC.of Tryz.func101 rfl 103 rfl (by decide) ?_;simp only [qi,frOf]
   repeat' (first|refine T.zh fun K hK=>?_|apply T.block|(refine T.reg (by kernel_rfl) fun K' hK'=>?_;simp only [bz];(with_reducible repeat' (first|(apply WL.fin;apply hK';clear hK' K')|(refine WL.step fun K2 hK2=>?_;simp only [simprocAttr,az];repeat' (first|(apply hK2;clear hK2 K2)|apply And.intro|intro hb)))))|apply T.skip|apply T.exit|refine T.zg rfl ?_|refine T.zf rfl ?_|refine T.cond rfl (fun hc=>?_) (fun hc=>?_)|apply T.ret|simp only [zb,za,reduceIte,Nat.reduceEqDiff]|((repeat ((fail_if_success apply hK);clear hK K));apply hK;clear hK K))
   refine T.comm [c0,c0,c0,c0,c0,c0,c0,c0,c0,c0,c0,c0,c0,c0,c0,c0,c0,c0,c0,c0,c0,c0,c0,c0,c0,c0,c0,c0,c0,c0,c0,c0,c0,c0,c0,c0] (by kernel_rfl) (by kernel_rfl) fun K' hK'=>?_;simp only [List.map_cons,List.map_nil,List.zip_cons_cons,List.zip_nil_left];(repeat' (first|(with_reducible refine WC.fin ?_;apply hK';clear hK' K')|((first|(with_reducible refine WC.z0Q fun K2 hK2=>?_)|(with_reducible refine WC.stepW fun K2 hK2=>?_));simp only [simprocAttr,implies_true,amz,WCg,WCv,WOw,allP,dav,Chk,List.filter_cons,List.filter_nil,bne_self_eq_false,Nat.reduceBneDiff,Bool.false_eq_true,tys,f1,f2,f3,f4];(repeat' (first|(with_reducible refine hK2 _ _ ?_;clear hK2 K2)|with_reducible (first|(apply hK2;clear hK2 K2)|apply And.intro|intro hb)|(with_reducible rfl)|((with_reducible show @Eq ASt _ _);rfl) )))));all_goals ((try simp only [zb,za,reduceIte,Nat.reduceEqDiff]);(try ((repeat ((fail_if_success apply hK);clear hK K));apply hK;clear hK K)))
   all_goals (repeat' (first|refine T.zh fun K hK=>?_|apply T.block|(refine T.reg (by kernel_rfl) fun K' hK'=>?_;simp only [bz];(with_reducible repeat' (first|(apply WL.fin;apply hK';clear hK' K')|(refine WL.step fun K2 hK2=>?_;simp only [simprocAttr,az];repeat' (first|(apply hK2;clear hK2 K2)|apply And.intro|intro hb)))))|apply T.skip|apply T.exit|refine T.zg rfl ?_|refine T.zf rfl ?_|refine T.cond rfl (fun hc=>?_) (fun hc=>?_)|apply T.ret|simp only [zb,za,reduceIte,Nat.reduceEqDiff]|((repeat ((fail_if_success apply hK);clear hK K));apply hK;clear hK K)))
   refine T.weak (s':=⟨[(0,.ptr 0 0),(3,.ptr 4 0),(4,.bool false),(5,.ptr 0 5)],[(4,.boxP none 30 ((evC e).map .p)),(0,.boxP (some b) 154 [.int s.ev,.int s.gor,.own 1,.own 2,.own 3,.p (.seq 1 ([pI kd] :: r.map fun x => [pI x])),.int s.op.obj,.int s.op.k,.int s.op.n,.int s.op.snd,.int s.op.rcv]),(1,.map none Tryz.prog 3 a1 (inM chV s.ch)),(2,.map none Tryz.prog 147 a2 (plM muV s.mu)),(3,.map none Tryz.prog 147 a3 (plM Value.bool (dnO s.dn)))],103,5⟩) (by refine zk.of' rfl ?_;simp only [wks,reduceIte,Nat.reduceEqDiff,ASt.okB,AV.okB,Nat.reduceLT,implies_true,evA,evC,List.map_cons,List.map_nil]) ?_
   simp only [evC,List.map_cons,List.map_nil]
   refine T.drw 9 (by kernel_rfl) (by kernel_rfl) fun K' hK'=>?_;simp only [List.map_cons,List.map_nil];(repeat' (first|(with_reducible refine WL.fin ?_;apply hK';clear hK' K')|(with_reducible refine WD.fin ?_)|((with_reducible first|refine WL.step fun K2 hK2=>?_|refine WD.step fun K2 hK2=>?_);simp only [simprocAttr,az];(repeat' with_reducible (first|(apply hK2;clear hK2 K2)|apply And.intro|intro hb)))));all_goals ((try simp only [zb,za,reduceIte,Nat.reduceEqDiff]);(try ((repeat ((fail_if_success apply hK);clear hK K));apply hK;clear hK K)))
   repeat' (first|refine T.zh fun K hK=>?_|apply T.block|(refine T.reg (by kernel_rfl) fun K' hK'=>?_;simp only [bz];(repeat' (first|(with_reducible refine WL.fin ?_;apply hK';clear hK' K')|((with_reducible refine WL.step fun K2 hK2=>?_);simp only [simprocAttr,az];(repeat' (first|with_reducible (first|(apply hK2;clear hK2 K2)|apply And.intro|intro hb)|((with_reducible first|apply zl|apply zm);case h=>exact CallV.plain (Ent.of Tryz.func105 (by kernel_rfl) rfl) (hsx) (by simp [AV.okB]))))))))|apply T.skip|apply T.exit|refine T.zg rfl ?_|refine T.zf rfl ?_|refine T.cond rfl (fun hc=>?_) (fun hc=>?_)|apply T.ret|simp only [zb,za,reduceIte,Nat.reduceEqDiff]|((repeat ((fail_if_success apply hK);clear hK K));apply hK;clear hK K))
   refine T.drw 9 (by kernel_rfl) (by kernel_rfl) fun K' hK'=>?_;simp only [List.map_cons,List.map_nil];(repeat' (first|(with_reducible refine WL.fin ?_;apply hK';clear hK' K')|(with_reducible refine WD.fin ?_)|((with_reducible first|refine WL.step fun K2 hK2=>?_|refine WD.step fun K2 hK2=>?_);simp only [simprocAttr,az];(repeat' with_reducible (first|(apply hK2;clear hK2 K2)|apply And.intro|intro hb)))));all_goals ((try simp only [zb,za,reduceIte,Nat.reduceEqDiff]);(try ((repeat ((fail_if_success apply hK);clear hK K));apply hK;clear hK K)))
   repeat' (first|refine T.zh fun K hK=>?_|apply T.block|(refine T.reg (by kernel_rfl) fun K' hK'=>?_;simp only [bz];(with_reducible repeat' (first|(apply WL.fin;apply hK';clear hK' K')|(refine WL.step fun K2 hK2=>?_;simp only [simprocAttr,az];repeat' (first|(apply hK2;clear hK2 K2)|apply And.intro|intro hb)))))|apply T.skip|apply T.exit|refine T.zg rfl ?_|refine T.zf rfl ?_|refine T.cond rfl (fun hc=>?_) (fun hc=>?_)|apply T.ret|simp only [zb,za,reduceIte,Nat.reduceEqDiff]|((repeat ((fail_if_success apply hK);clear hK K));apply hK;clear hK K))
   refine T.weak (s':=⟨[(0,.ptr 0 0),(3,.ptr 4 0),(4,.bool false),(5,.ptr 0 5),(6,.ptr 0 9),(7,.int s.op.rcv)],[(4,.boxP none 30 ((evC e).map .p)),(0,.boxP (some b) 154 [.int s.ev,.int s.gor,.own 1,.own 2,.own 3,.p (.seq 1 ([pI kd] :: r.map fun x => [pI x])),.int s.op.obj,.int s.op.k,.int s.op.n,.int s.op.snd,.int s.op.rcv]),(1,.map none Tryz.prog 3 a1 (inM chV s.ch)),(2,.map none Tryz.prog 147 a2 (plM muV s.mu)),(3,.map none Tryz.prog 147 a3 (plM Value.bool (dnO s.dn)))],103,5⟩) (by refine zk.of' rfl ?_;simp only [wks,reduceIte,Nat.reduceEqDiff,ASt.okB,AV.okB,Nat.reduceLT,implies_true,evA,evC,List.map_cons,List.map_nil]) ?_
   simp only [evC,List.map_cons,List.map_nil]
   cases hb:badP s.op.snd s.op.rcv e.g with
   | true =>
    have hn:z2j s kd r e=none:=by simp [z2j,hf,ho,hb]
    refine T.drw 24 (by kernel_rfl) (by kernel_rfl) fun K' hK'=>?_;simp only [List.map_cons,List.map_nil];(repeat' (first|(with_reducible refine WL.fin ?_;apply hK';clear hK' K')|(with_reducible refine WD.fin ?_)|((with_reducible first|refine WL.step fun K2 hK2=>?_|refine WD.step fun K2 hK2=>?_);simp only [simprocAttr,az];(repeat' with_reducible (first|(apply hK2;clear hK2 K2)|apply And.intro|intro hb)))));all_goals ((try simp only [zb,za,reduceIte,Nat.reduceEqDiff]);(try ((repeat ((fail_if_success apply hK);clear hK K));apply hK;clear hK K)))
    all_goals (repeat' (first|refine T.zh fun K hK=>?_|apply T.block|(refine T.reg (by kernel_rfl) fun K' hK'=>?_;simp only [bz];(with_reducible repeat' (first|(apply WL.fin;apply hK';clear hK' K')|(refine WL.step fun K2 hK2=>?_;simp only [simprocAttr,az];repeat' (first|(apply hK2;clear hK2 K2)|apply And.intro|intro hb)))))|apply T.skip|apply T.exit|refine T.zg rfl ?_|refine T.zf rfl ?_|refine T.cond rfl (fun hc=>?_) (fun hc=>?_)|apply T.ret|simp only [zb,za,reduceIte,Nat.reduceEqDiff]|((repeat ((fail_if_success apply hK);clear hK K));apply hK;clear hK K)))
    all_goals first
     | ((refine FinM.ret (s':=⟨[(4,.bool false)],hpS b s a1 a2 a3,103,4⟩) (r := .bool false) (.inr rfl) Tryz.results101 (by refine zk.of' rfl ?_;simp only [wks,reduceIte,Nat.reduceEqDiff,ASt.okB,AV.okB,Nat.reduceLT,implies_true,hpS,gpC,hk,evA,evC,List.map_cons,List.map_nil]) rfl ?_ ?_;(focus (simp only [zw,zt,zq,simprocAttr,az,];done)));exact QS.no hn;done)
     | (exfalso;simp_all [badP];done)
   | false =>
    have hy:z2j s kd r e=some t:=by simp [z2j,hf,ho,hb,ht]
    refine T.drw 24 (by kernel_rfl) (by kernel_rfl) fun K' hK'=>?_;simp only [List.map_cons,List.map_nil];(repeat' (first|(with_reducible refine WL.fin ?_;apply hK';clear hK' K')|(with_reducible refine WD.fin ?_)|((with_reducible first|refine WL.step fun K2 hK2=>?_|refine WD.step fun K2 hK2=>?_);simp only [simprocAttr,az];(repeat' with_reducible (first|(apply hK2;clear hK2 K2)|apply And.intro|intro hb)))));all_goals ((try simp only [zb,za,reduceIte,Nat.reduceEqDiff]);(try ((repeat ((fail_if_success apply hK);clear hK K));apply hK;clear hK K)))
    all_goals (repeat' (first|refine T.zh fun K hK=>?_|apply T.block|(refine T.reg (by kernel_rfl) fun K' hK'=>?_;simp only [bz];(repeat' (first|(with_reducible refine WL.fin ?_;apply hK';clear hK' K')|((with_reducible refine WL.step fun K2 hK2=>?_);simp only [simprocAttr,az,h1l,htk,hdr,Int.le_refl,and_self];(repeat' (first|with_reducible (first|(apply hK2;clear hK2 K2)|apply And.intro|intro hb)|((with_reducible refine zM 4 _ _ [0] (Ent.of Tryz.func106 (by kernel_rfl) rfl) (hcn) ?_ ?_ ?_);(focus ((refine ⟨Nat.le_of_ble_eq_true rfl,?_,?_⟩ <;> simp only [pz,reduceIte,Nat.reduceEqDiff,AV.okB,Nat.reduceLT,]);done));(focus (simp [AV.okB];done));rintro hp' r ⟨rfl,rfl⟩;refine ⟨by simp [Kept,zy,AO.handle],?_⟩;simp only [cz,ASt.zR,AO.keep,Nat.reduceLeDiff,reduceIte,Nat.reduceEqDiff,])))))))|apply T.skip|apply T.exit|refine T.zg rfl ?_|refine T.zf rfl ?_|refine T.cond rfl (fun hc=>?_) (fun hc=>?_)|apply T.ret|simp only [zb,za,reduceIte,Nat.reduceEqDiff]|((repeat ((fail_if_success apply hK);clear hK K));apply hK;clear hK K)))
    all_goals first
     | (exfalso;simp_all [badP];done)
     | ((refine FinM.ret (s':=⟨[(4,.bool true)],hpS b t (a1+1) a2 a3,103,4⟩) (r := .bool true) (.inr rfl) Tryz.results101 (by refine zk.of' rfl ?_;simp only [wks,reduceIte,Nat.reduceEqDiff,ASt.okB,AV.okB,Nat.reduceLT,implies_true,hpS,gpC,List.map_cons,List.map_nil]) rfl ?_ ?_;(focus (simp only [zw,zt,zq,simprocAttr,az,];done)));exact QS.yes t (a1+1) a2 a3 hy (by omega) (by omega) (by omega);done)
  | false =>
   obtain ⟨t,ht⟩ : ∃ t,countP (z0e s (z0j s.op e r)) e=t:=⟨_,rfl⟩
   rw [ht] at hcn
   simp only [z0j,hs,Bool.false_eq_true,if_false,z0e,hpS,gpC,evA,evC,List.map_cons,List.map_nil] at hcn
   have hsx:=z9k e.kind
   rw [hs] at hsx
   have ho:ownP s.op.snd s.op.rcv e.kind=s.op.rcv∧othP s.op.snd s.op.rcv e.kind=s.op.snd:=by simp [ownP,othP,hs]
   have hpe:hpS b s a1 a2 a3 = [(0,.boxP (some b) 154 [.int s.ev,.int s.gor,.own 1,.own 2,.own 3,.p (.seq 1 ([pI kd] :: r.map fun x => [pI x])),.int s.op.obj,.int s.op.k,.int s.op.n,.int s.op.snd,.int s.op.rcv]),(1,.map none Tryz.prog 3 a1 (inM chV s.ch)),(2,.map none Tryz.prog 147 a2 (plM muV s.mu)),(3,.map none Tryz.prog 147 a3 (plM Value.bool (dnO s.dn)))]:=by simp only [hpS,gpC,hk,List.map_cons]
   rw [hpe]
   simp only [evA,evC,List.map_cons,List.map_nil]
   refine MemC.of Tryz.func101 rfl 103 rfl (by decide) ?_;simp only [qi,frOf]
   repeat' (first|refine T.zh fun K hK=>?_|apply T.block|(refine T.reg (by kernel_rfl) fun K' hK'=>?_;simp only [bz];(with_reducible repeat' (first|(apply WL.fin;apply hK';clear hK' K')|(refine WL.step fun K2 hK2=>?_;simp only [simprocAttr,az];repeat' (first|(apply hK2;clear hK2 K2)|apply And.intro|intro hb)))))|apply T.skip|apply T.exit|refine T.zg rfl ?_|refine T.zf rfl ?_|refine T.cond rfl (fun hc=>?_) (fun hc=>?_)|apply T.ret|simp only [zb,za,reduceIte,Nat.reduceEqDiff]|((repeat ((fail_if_success apply hK);clear hK K));apply hK;clear hK K))
   refine T.comm [c0,c0,c0,c0,c0,c0,c0,c0,c0,c0,c0,c0,c0,c0,c0,c0,c0,c0,c0,c0,c0,c0,c0,c0,c0,c0,c0,c0,c0,c0,c0,c0,c0,c0,c0,c0] (by kernel_rfl) (by kernel_rfl) fun K' hK'=>?_;simp only [List.map_cons,List.map_nil,List.zip_cons_cons,List.zip_nil_left];(repeat' (first|(with_reducible refine WC.fin ?_;apply hK';clear hK' K')|((first|(with_reducible refine WC.z0Q fun K2 hK2=>?_)|(with_reducible refine WC.stepW fun K2 hK2=>?_));simp only [simprocAttr,implies_true,amz,WCg,WCv,WOw,allP,dav,Chk,List.filter_cons,List.filter_nil,bne_self_eq_false,Nat.reduceBneDiff,Bool.false_eq_true,tys,f1,f2,f3,f4];(repeat' (first|(with_reducible refine hK2 _ _ ?_;clear hK2 K2)|with_reducible (first|(apply hK2;clear hK2 K2)|apply And.intro|intro hb)|(with_reducible rfl)|((with_reducible show @Eq ASt _ _);rfl) )))));all_goals ((try simp only [zb,za,reduceIte,Nat.reduceEqDiff]);(try ((repeat ((fail_if_success apply hK);clear hK K));apply hK;clear hK K)))
   all_goals (repeat' (first|refine T.zh fun K hK=>?_|apply T.block|(refine T.reg (by kernel_rfl) fun K' hK'=>?_;simp only [bz];(with_reducible repeat' (first|(apply WL.fin;apply hK';clear hK' K')|(refine WL.step fun K2 hK2=>?_;simp only [simprocAttr,az];repeat' (first|(apply hK2;clear hK2 K2)|apply And.intro|intro hb)))))|apply T.skip|apply T.exit|refine T.zg rfl ?_|refine T.zf rfl ?_|refine T.cond rfl (fun hc=>?_) (fun hc=>?_)|apply T.ret|simp only [zb,za,reduceIte,Nat.reduceEqDiff]|((repeat ((fail_if_success apply hK);clear hK K));apply hK;clear hK K)))
   refine T.weak (s':=⟨[(0,.ptr 0 0),(3,.ptr 4 0),(4,.bool false),(5,.ptr 0 5)],[(4,.boxP none 30 ((evC e).map .p)),(0,.boxP (some b) 154 [.int s.ev,.int s.gor,.own 1,.own 2,.own 3,.p (.seq 1 ([pI kd] :: r.map fun x => [pI x])),.int s.op.obj,.int s.op.k,.int s.op.n,.int s.op.snd,.int s.op.rcv]),(1,.map none Tryz.prog 3 a1 (inM chV s.ch)),(2,.map none Tryz.prog 147 a2 (plM muV s.mu)),(3,.map none Tryz.prog 147 a3 (plM Value.bool (dnO s.dn)))],103,5⟩) (by refine zk.of' rfl ?_;simp only [wks,reduceIte,Nat.reduceEqDiff,ASt.okB,AV.okB,Nat.reduceLT,implies_true,evA,evC,List.map_cons,List.map_nil]) ?_
   simp only [evC,List.map_cons,List.map_nil]
   refine T.drw 9 (by kernel_rfl) (by kernel_rfl) fun K' hK'=>?_;simp only [List.map_cons,List.map_nil];(repeat' (first|(with_reducible refine WL.fin ?_;apply hK';clear hK' K')|(with_reducible refine WD.fin ?_)|((with_reducible first|refine WL.step fun K2 hK2=>?_|refine WD.step fun K2 hK2=>?_);simp only [simprocAttr,az];(repeat' with_reducible (first|(apply hK2;clear hK2 K2)|apply And.intro|intro hb)))));all_goals ((try simp only [zb,za,reduceIte,Nat.reduceEqDiff]);(try ((repeat ((fail_if_success apply hK);clear hK K));apply hK;clear hK K)))
   repeat' (first|refine T.zh fun K hK=>?_|apply T.block|(refine T.reg (by kernel_rfl) fun K' hK'=>?_;simp only [bz];(repeat' (first|(with_reducible refine WL.fin ?_;apply hK';clear hK' K')|((with_reducible refine WL.step fun K2 hK2=>?_);simp only [simprocAttr,az];(repeat' (first|with_reducible (first|(apply hK2;clear hK2 K2)|apply And.intro|intro hb)|((with_reducible first|apply zl|apply zm);case h=>exact CallV.plain (Ent.of Tryz.func105 (by kernel_rfl) rfl) (hsx) (by simp [AV.okB]))))))))|apply T.skip|apply T.exit|refine T.zg rfl ?_|refine T.zf rfl ?_|refine T.cond rfl (fun hc=>?_) (fun hc=>?_)|apply T.ret|simp only [zb,za,reduceIte,Nat.reduceEqDiff]|((repeat ((fail_if_success apply hK);clear hK K));apply hK;clear hK K))
   refine T.weak (s':=⟨[(0,.ptr 0 0),(3,.ptr 4 0),(4,.bool false),(5,.ptr 0 5),(6,.ptr 0 10),(7,.int s.op.snd)],[(4,.boxP none 30 ((evC e).map .p)),(0,.boxP (some b) 154 [.int s.ev,.int s.gor,.own 1,.own 2,.own 3,.p (.seq 1 ([pI kd] :: r.map fun x => [pI x])),.int s.op.obj,.int s.op.k,.int s.op.n,.int s.op.snd,.int s.op.rcv]),(1,.map none Tryz.prog 3 a1 (inM chV s.ch)),(2,.map none Tryz.prog 147 a2 (plM muV s.mu)),(3,.map none Tryz.prog 147 a3 (plM Value.bool (dnO s.dn)))],103,5⟩) (by refine zk.of' rfl ?_;simp only [wks,reduceIte,Nat.reduceEqDiff,ASt.okB,AV.okB,Nat.reduceLT,implies_true,evA,evC,List.map_cons,List.map_nil]) ?_
   simp only [evC,List.map_cons,List.map_nil]
   cases hb:badP s.op.rcv s.op.snd e.g with
   | true =>
    have hn:z2j s kd r e=none:=by simp [z2j,hf,ho,hb]
    refine T.drw 24 (by kernel_rfl) (by kernel_rfl) fun K' hK'=>?_;simp only [List.map_cons,List.map_nil];(repeat' (first|(with_reducible refine WL.fin ?_;apply hK';clear hK' K')|(with_reducible refine WD.fin ?_)|((with_reducible first|refine WL.step fun K2 hK2=>?_|refine WD.step fun K2 hK2=>?_);simp only [simprocAttr,az];(repeat' with_reducible (first|(apply hK2;clear hK2 K2)|apply And.intro|intro hb)))));all_goals ((try simp only [zb,za,reduceIte,Nat.reduceEqDiff]);(try ((repeat ((fail_if_success apply hK);clear hK K));apply hK;clear hK K)))
    all_goals (repeat' (first|refine T.zh fun K hK=>?_|apply T.block|(refine T.reg (by kernel_rfl) fun K' hK'=>?_;simp only [bz];(with_reducible repeat' (first|(apply WL.fin;apply hK';clear hK' K')|(refine WL.step fun K2 hK2=>?_;simp only [simprocAttr,az];repeat' (first|(apply hK2;clear hK2 K2)|apply And.intro|intro hb)))))|apply T.skip|apply T.exit|refine T.zg rfl ?_|refine T.zf rfl ?_|refine T.cond rfl (fun hc=>?_) (fun hc=>?_)|apply T.ret|simp only [zb,za,reduceIte,Nat.reduceEqDiff]|((repeat ((fail_if_success apply hK);clear hK K));apply hK;clear hK K)))
    all_goals first
     | ((refine FinM.ret (s':=⟨[(4,.bool false)],hpS b s a1 a2 a3,103,4⟩) (r := .bool false) (.inr rfl) Tryz.results101 (by refine zk.of' rfl ?_;simp only [wks,reduceIte,Nat.reduceEqDiff,ASt.okB,AV.okB,Nat.reduceLT,implies_true,hpS,gpC,hk,evA,evC,List.map_cons,List.map_nil]) rfl ?_ ?_;(focus (simp only [zw,zt,zq,simprocAttr,az,];done)));exact QS.no hn;done)
     | (exfalso;simp_all [badP];done)
   | false =>
    have hy:z2j s kd r e=some t:=by simp [z2j,hf,ho,hb,ht]
    refine T.drw 24 (by kernel_rfl) (by kernel_rfl) fun K' hK'=>?_;simp only [List.map_cons,List.map_nil];(repeat' (first|(with_reducible refine WL.fin ?_;apply hK';clear hK' K')|(with_reducible refine WD.fin ?_)|((with_reducible first|refine WL.step fun K2 hK2=>?_|refine WD.step fun K2 hK2=>?_);simp only [simprocAttr,az];(repeat' with_reducible (first|(apply hK2;clear hK2 K2)|apply And.intro|intro hb)))));all_goals ((try simp only [zb,za,reduceIte,Nat.reduceEqDiff]);(try ((repeat ((fail_if_success apply hK);clear hK K));apply hK;clear hK K)))
    all_goals (repeat' (first|refine T.zh fun K hK=>?_|apply T.block|(refine T.reg (by kernel_rfl) fun K' hK'=>?_;simp only [bz];(repeat' (first|(with_reducible refine WL.fin ?_;apply hK';clear hK' K')|((with_reducible refine WL.step fun K2 hK2=>?_);simp only [simprocAttr,az,h1l,htk,hdr,Int.le_refl,and_self];(repeat' (first|with_reducible (first|(apply hK2;clear hK2 K2)|apply And.intro|intro hb)|((with_reducible refine zM 4 _ _ [0] (Ent.of Tryz.func106 (by kernel_rfl) rfl) (hcn) ?_ ?_ ?_);(focus ((refine ⟨Nat.le_of_ble_eq_true rfl,?_,?_⟩ <;> simp only [pz,reduceIte,Nat.reduceEqDiff,AV.okB,Nat.reduceLT,]);done));(focus (simp [AV.okB];done));rintro hp' r ⟨rfl,rfl⟩;refine ⟨by simp [Kept,zy,AO.handle],?_⟩;simp only [cz,ASt.zR,AO.keep,Nat.reduceLeDiff,reduceIte,Nat.reduceEqDiff,])))))))|apply T.skip|apply T.exit|refine T.zg rfl ?_|refine T.zf rfl ?_|refine T.cond rfl (fun hc=>?_) (fun hc=>?_)|apply T.ret|simp only [zb,za,reduceIte,Nat.reduceEqDiff]|((repeat ((fail_if_success apply hK);clear hK K));apply hK;clear hK K)))
    all_goals first
     | (exfalso;simp_all [badP];done)
     | ((refine FinM.ret (s':=⟨[(4,.bool true)],hpS b t (a1+1) a2 a3,103,4⟩) (r := .bool true) (.inr rfl) Tryz.results101 (by refine zk.of' rfl ?_;simp only [wks,reduceIte,Nat.reduceEqDiff,ASt.okB,AV.okB,Nat.reduceLT,implies_true,hpS,gpC,List.map_cons,List.map_nil]) rfl ?_ ?_;(focus (simp only [zw,zt,zq,simprocAttr,az,];done)));exact QS.yes t (a1+1) a2 a3 hy (by omega) (by omega) (by omega);done)
 ·have hn:z2j s kd r e=none:=by simp [z2j,hf]
  have hf' : fitP s.op kd e=false:=by simpa using hf
  have hpe:hpS b s a1 a2 a3 = [(0,.boxP (some b) 154 [.int s.ev,.int s.gor,.own 1,.own 2,.own 3,.p (.seq 1 ([pI kd] :: r.map fun x => [pI x])),.int s.op.obj,.int s.op.k,.int s.op.n,.int s.op.snd,.int s.op.rcv]),(1,.map none Tryz.prog 3 a1 (inM chV s.ch)),(2,.map none Tryz.prog 147 a2 (plM muV s.mu)),(3,.map none Tryz.prog 147 a3 (plM Value.bool (dnO s.dn)))]:=by simp only [hpS,gpC,hk,List.map_cons]
  rw [hpe]
  simp only [evA,evC,List.map_cons,List.map_nil]
  refine MemC.of Tryz.func101 rfl 103 rfl (by decide) ?_;simp only [qi,frOf]
  repeat' (first|refine T.zh fun K hK=>?_|apply T.block|(refine T.reg (by kernel_rfl) fun K' hK'=>?_;simp only [bz];(with_reducible repeat' (first|(apply WL.fin;apply hK';clear hK' K')|(refine WL.step fun K2 hK2=>?_;simp only [simprocAttr,az];repeat' (first|(apply hK2;clear hK2 K2)|apply And.intro|intro hb)))))|apply T.skip|apply T.exit|refine T.zg rfl ?_|refine T.zf rfl ?_|refine T.cond rfl (fun hc=>?_) (fun hc=>?_)|apply T.ret|simp only [zb,za,reduceIte,Nat.reduceEqDiff]|((repeat ((fail_if_success apply hK);clear hK K));apply hK;clear hK K))
  refine T.comm [c0,c0,c0,c0,c0,c0,c0,c0,c0,c0,c0,c0,c0,c0,c0,c0,c0,c0,c0,c0,c0,c0,c0,c0,c0,c0,c0,c0,c0,c0,c0,c0,c0,c0,c0,c0] (by kernel_rfl) (by kernel_rfl) fun K' hK'=>?_;simp only [List.map_cons,List.map_nil,List.zip_cons_cons,List.zip_nil_left];(repeat' (first|(with_reducible refine WC.fin ?_;apply hK';clear hK' K')|((first|(with_reducible refine WC.z0Q fun K2 hK2=>?_)|(with_reducible refine WC.stepW fun K2 hK2=>?_));simp only [simprocAttr,implies_true,amz,WCg,WCv,WOw,allP,dav,Chk,List.filter_cons,List.filter_nil,bne_self_eq_false,Nat.reduceBneDiff,Bool.false_eq_true,tys];(repeat' (first|(with_reducible refine hK2 _ _ ?_;clear hK2 K2)|with_reducible (first|(apply hK2;clear hK2 K2)|apply And.intro|intro hb)|(with_reducible rfl)|((with_reducible show @Eq ASt _ _);rfl) )))));all_goals ((try simp only [zb,za,reduceIte,Nat.reduceEqDiff]);(try ((repeat ((fail_if_success apply hK);clear hK K));apply hK;clear hK K)))
  all_goals (repeat' (first|refine T.zh fun K hK=>?_|apply T.block|(refine T.reg (by kernel_rfl) fun K' hK'=>?_;simp only [bz];(with_reducible repeat' (first|(apply WL.fin;apply hK';clear hK' K')|(refine WL.step fun K2 hK2=>?_;simp only [simprocAttr,az];repeat' (first|(apply hK2;clear hK2 K2)|apply And.intro|intro hb)))))|apply T.skip|apply T.exit|refine T.zg rfl ?_|refine T.zf rfl ?_|refine T.cond rfl (fun hc=>?_) (fun hc=>?_)|apply T.ret|simp only [zb,za,reduceIte,Nat.reduceEqDiff]|((repeat ((fail_if_success apply hK);clear hK K));apply hK;clear hK K)))
  all_goals first
   | (exfalso;simp_all [fitP];done)
   | ((refine FinM.ret (s':=⟨[(4,.bool false)],hpS b s a1 a2 a3,103,4⟩) (r := .bool false) (.inr rfl) Tryz.results101 (by refine zk.of' rfl ?_;simp only [wks,reduceIte,Nat.reduceEqDiff,ASt.okB,AV.okB,Nat.reduceLT,implies_true,hpS,gpC,hk,evA,evC,List.map_cons,List.map_nil]) rfl ?_ ?_;(focus (simp only [zw,zt,zq,simprocAttr,az,];done)));exact QS.no hn;done)
   | fail
end Go.Proofs.YtdlgoofjechocaaGreatDoor
