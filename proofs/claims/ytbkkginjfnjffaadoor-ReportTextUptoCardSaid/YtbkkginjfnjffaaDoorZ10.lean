/- Texts Mk, Na, Nb. -/
import Derived.Test.YtbkkginjfnjffaaDoorZ09
set_option maxHeartbeats 32000000
set_option maxRecDepth 100000
set_option linter.unusedSimpArgs false
set_option linter.unusedVariables false
namespace Go.Proofs.YtbkkginjfnjffaaDoor
open Go.RowKit Go.Sort Go.Maps
structure EvW (e:Ev):Prop where
 fn:inW e.fn
 pc:inW e.pc
 kind:inW e.kind
theorem z7e {a b:Ev} (ha:EvW a) (hb:EvW b):WfN 6 (keyL a b):=⟨rfl,by simp [keyL,ha.fn,ha.pc,ha.kind,hb.fn,hb.pc,hb.kind]⟩
def foV (p:P2 × Int):Value := .agg #[.int .i64 p.1.1,.int .i64 p.1.2,.int .i64 p.2]
theorem z4J (p:P2 × Int):cv (foV p) = .agg [.int p.1.1,.int p.1.2,.int p.2]:=by simp [cv,foV,Value.oneCell',AV.int]
theorem cv_z3:cv (Value.agg { toList := [Value.int IntKind.i64 0,Value.int IntKind.i64 0,Value.int IntKind.i64 0] }) = .agg [.int 0,.int 0,.int 0]:=by simp [cv,Value.oneCell',AV.int]
def mF (l:List Ev) (rs:List P2) (i:Nat) (k:List Int):Option Value:=(fndF (keyR l) k (rs.take i)).map foV
theorem mF_zero (l:List Ev) (rs:List P2):mF l rs 0=fun _=>none:=by funext k;rfl
theorem mF_upd {l:List Ev} {rs:List P2} {i:Nat} {r:P2} (h:rs[i]? = some r):(fun x=>if x=keyR l r then some (foV (upF (fndF (keyR l) (keyR l r) (rs.take i)) r)) else mF l rs i x)=mF l rs (i+1):=by
 funext x
 unfold mF
 rw [z6l h]
 by_cases e:x=keyR l r
 ·subst e;simp
 ·have : ¬ keyR l r=x:=fun h=>e h.symm
  simp [e,this]
theorem cmpI_gt (x y:Int) : 0<cmpI x y↔y<x:=by
 unfold cmpI
 split
 ·omega
 ·split <;> omega
theorem orL_gt (x:Int) (r:List Int) : 0<orL (x :: r) ↔ 0<x∨x=0 ∧ 0<orL r:=by
 rw [orL];split <;> omega
theorem cmp3_gt (a b:Ev):decide (0<cmp3 a b)=qW a b:=by
 rw [Bool.eq_iff_iff,decide_eq_true_eq]
 simp only [cmp3,orL_gt,orL_nil,cmpI_gt,cmpI_eq,Int.lt_irrefl,and_false,or_false]
 unfold qW
 by_cases h1:a.fn=b.fn
 ·rw [if_neg (by simpa using h1)]
  by_cases h2:a.pc=b.pc
  ·rw [if_neg (by simpa using h2),decide_eq_true_eq];omega
  ·rw [if_pos h2,decide_eq_true_eq];omega
 ·rw [if_pos h1,decide_eq_true_eq];omega
theorem wf_mem {l:List Ev} (h : ∀ e ∈ l,EvW e) {r:P2} {e f:Ev} (hr:Rac l r e f):EvW e∧EvW f∧WfN 6 (keyL (loE e f) (hiE e f)):=by
 have he:=h e (List.mem_of_getElem? hr.e)
 have hf:=h f (List.mem_of_getElem? hr.f)
 refine ⟨he,hf,z7e ?_ ?_⟩
 ·unfold loE;split
  ·exact hf
  ·exact he
 ·unfold hiE;split
  ·exact he
  ·exact hf
theorem z7p {l:List Ev} {rs:List P2} {ks:List (List Int)} (hw : ∀ k ∈ rs.map (keyR l),WfN 6 k) (h:SortedK (mF l rs rs.length) ks):ks=z0Q (rs.map (keyR l)):=by
 refine lxs_eq h.srt (z4n (n := 6) z3c) fun k=>?_
 rw [h.mem,z0J (n := 6) z3c]
 unfold mF
 rw [List.take_length,Option.isSome_map]
 constructor
 ·rintro ⟨_,hs⟩
  obtain ⟨p,hp⟩:=Option.isSome_iff_exists.1 hs
  obtain ⟨_,_,h1,h2⟩:=z1c (f:=p.1) (c:=p.2) hp
  exact List.mem_map.2 ⟨_,h1,h2⟩
 ·intro hk
  obtain ⟨r,c,h1⟩:=z6k hk
  exact ⟨hw k hk,by rw [h1];rfl⟩
theorem z1x (l:List Ev) (hel : ∀ e ∈ l,EvW e) (ss:List P2) (ps:List Int) (hdw:DW ss ps) (hsz:ss.length≤1000000) (rs:List P2) (hrs:rs.length≤1000):zy Tryd.prog 10 [trA l ss ps,raA rs] (merA l ss ps rs):=by
 have hvd:=z8g ss ps hdw hsz
 have hrl:=qO rs
 have hlm:(l.map evC).length=l.length:=by simp
 have hm1:(1≤maxLen)=True:=eq_true (by unfold maxLen;omega)
 have hw1:IntKind.i64.wrap 1=1:=by decide
 have hac:=fun r=>acc_ok l ss ps r
 simp only [trA,dpA,p2A] at hvd hac
 simp only [trA,dpA,p2A,raA,merA]
 cases hv:validD ss ps with
 | false =>
  have ho:okM l ss ps rs=false:=by simp [okM,hv]
  have hx:outM l ss ps rs = []:=by simp [outM,ho]
  have hy:errM l ss ps rs=1:=by simp [errM,ho]
  rw [hv] at hvd
  rw [hx,hy]
  simp only [List.map_nil]
  refine zy.of Tryd.func10 rfl 117 rfl (by decide) (by simp [AV.okB]) ?_
  repeat' (first|refine T.zk fun K hK=>?_|apply T.block|(refine T.reg (by kernel_rfl) fun K' hK'=>?_;simp only [bz];(repeat' (first|(with_reducible refine WL.fin ?_;apply hK';clear hK' K')|((with_reducible refine WL.step fun K2 hK2=>?_);simp only [simprocAttr,implies_true,amz,zb,tys];(repeat' (first|with_reducible (first|(apply hK2;clear hK2 K2)|apply And.intro|intro hb)|((with_reducible first|apply zh|apply zl);case h=>exact CallV.plain (Ent.of Tryd.func17 (by kernel_rfl) rfl) (hvd) (by simp [AV.okB]))))))))|apply T.skip|apply T.exit|refine T.zf rfl ?_|refine T.ze rfl ?_|refine T.cond rfl (fun hc=>?_) (fun hc=>?_)|apply T.ret|simp only [za,z8,reduceIte,Nat.reduceEqDiff]|((repeat ((fail_if_success apply hK);clear hK K));apply hK;clear hK K))
  refine qf.retW (.inr rfl) Tryd.results10 (s':=⟨[(4,.p (.seq 7 [])),(5,.int 1)],[],117,0⟩) (by refine zi.of' rfl ?_;simp only [wks,reduceIte,Nat.reduceEqDiff,ASt.okB,AV.okB,Nat.reduceLT,implies_true,]) ?_
  simp only [zR,zA,zB,simprocAttr,implies_true,amz,zb,tys]
 | true =>
 rw [hv] at hvd
 refine zy.of Tryd.func10 rfl 117 rfl (by decide) (by simp [AV.okB]) ?_
 refine T.weak (zi.upN _ 8 (Nat.le_of_ble_eq_true rfl)) ?_
 repeat' (first|refine T.zk fun K hK=>?_|apply T.block|apply T.skip|apply T.exit|refine T.zf rfl ?_|refine T.ze rfl ?_|refine T.cond rfl (fun hc=>?_) (fun hc=>?_)|apply T.ret|simp only [za,z8,reduceIte,Nat.reduceEqDiff]|((repeat ((fail_if_success apply hK);clear hK K));apply hK;clear hK K))
 (refine T.reg (by kernel_rfl) fun K' hK'=>?_;simp only [bz];(with_reducible repeat' (first|(apply WL.fin;apply hK';clear hK' K')|(refine WL.step fun K2 hK2=>?_;simp only [simprocAttr,implies_true,amz,zb,tys];repeat' (first|(apply hK2;clear hK2 K2)|apply And.intro|intro hb))));all_goals ((try simp only [za,z8,reduceIte,Nat.reduceEqDiff]);(try ((repeat ((fail_if_success apply hK);clear hK K));apply hK;clear hK K))))
 repeat' (first|refine T.zk fun K hK=>?_|apply T.block|apply T.skip|apply T.exit|refine T.zf rfl ?_|refine T.ze rfl ?_|refine T.cond rfl (fun hc=>?_) (fun hc=>?_)|apply T.ret|simp only [za,z8,reduceIte,Nat.reduceEqDiff]|((repeat ((fail_if_success apply hK);clear hK K));apply hK;clear hK K))
 (refine T.reg (by kernel_rfl) fun K' hK'=>?_;simp only [bz];(repeat' (first|(with_reducible refine WL.fin ?_;apply hK';clear hK' K')|((with_reducible refine WL.step fun K2 hK2=>?_);simp only [simprocAttr,implies_true,amz,zb,tys];(repeat' (first|with_reducible (first|(apply hK2;clear hK2 K2)|apply And.intro|intro hb)|((with_reducible first|apply zh|apply zl);case h=>exact CallV.plain (Ent.of Tryd.func17 (by kernel_rfl) rfl) (hvd) (by simp [AV.okB])))))));all_goals ((try simp only [za,z8,reduceIte,Nat.reduceEqDiff]);(try ((repeat ((fail_if_success apply hK);clear hK K));apply hK;clear hK K))))
 repeat' (first|refine T.zk fun K hK=>?_|apply T.block|apply T.skip|apply T.exit|refine T.zf rfl ?_|refine T.ze rfl ?_|refine T.cond rfl (fun hc=>?_) (fun hc=>?_)|apply T.ret|simp only [za,z8,reduceIte,Nat.reduceEqDiff]|((repeat ((fail_if_success apply hK);clear hK K));apply hK;clear hK K))
 (refine T.reg (by kernel_rfl) fun K' hK'=>?_;simp only [bz];(with_reducible repeat' (first|(apply WL.fin;apply hK';clear hK' K')|(refine WL.step fun K2 hK2=>?_;simp only [simprocAttr,implies_true,amz,zb,tys];repeat' (first|(apply hK2;clear hK2 K2)|apply And.intro|intro hb))));all_goals ((try simp only [za,z8,reduceIte,Nat.reduceEqDiff]);(try ((repeat ((fail_if_success apply hK);clear hK K));apply hK;clear hK K))))
 refine T.weak (zi.ren _ 9 6) ?_;simp only [ASt.ren,AV.zZ,AV.zF,AV.qd,AV.qz,AV.zW,AV.zD,AV.zq,AV.qc,AV.qR,AV.zC,AV.qj,AO.qD,AO.qG,AO.qE,AO.qF,List.map_cons,List.map_nil,List.filter_cons,List.filter_nil,zm,qy,reduceIte,Nat.reduceEqDiff,Nat.reduceLT,Nat.reduceBneDiff,bne_self_eq_false,Bool.and_true,Bool.and_false,Bool.true_and,Bool.false_and,Bool.and_self,Bool.false_eq_true,ne_eq,not_false_eq_true,not_true_eq_false,and_self,and_true,true_and,and_false,bne_self_eq_false]
 refine T.pin 6 _ rfl fun bp=>?_;simp only [zU,AO.pin,List.map_cons,List.map_nil,reduceIte,Nat.reduceEqDiff]
 repeat' (first|refine T.zk fun K hK=>?_|apply T.block|(refine T.reg (by kernel_rfl) fun K' hK'=>?_;simp only [bz];(with_reducible repeat' (first|(apply WL.fin;apply hK';clear hK' K')|(refine WL.step fun K2 hK2=>?_;simp only [simprocAttr,implies_true,amz,zb,tys,hrl];repeat' (first|(apply hK2;clear hK2 K2)|apply And.intro|intro hb)))))|apply T.skip|apply T.exit|refine T.zf rfl ?_|refine T.ze rfl ?_|refine T.cond rfl (fun hc=>?_) (fun hc=>?_)|apply T.ret|simp only [za,z8,reduceIte,Nat.reduceEqDiff]|((repeat ((fail_if_success apply hK);clear hK K));apply hK;clear hK K))
 refine T.z0o (fun i:Nat=>⟨[(1,.p (.seq 2 (rowP rs))),(2,.ptr 8 0),(6,.own 6),(20,.p (.seq 2 (rowP rs))),(21,.int rs.length),(22,.int i)],[(6,prM (some bp) i (mF l rs i)),(8,.boxP none 28 [.p (.seq 9 (l.map evC)),.p (.seq 2 (rowP ss)),.p (.seq 1 (rowZ ps))])],117,9⟩) (fun i=>i≤rs.length∧rs.all (accB l ss.length)=(rs.drop i).all (accB l ss.length)) (fun i=>rs.length-i) 0 ⟨Nat.zero_le _,by simp⟩ (by refine zi.of' rfl ?_;simp only [wks,reduceIte,Nat.reduceEqDiff,ASt.okB,AV.okB,Nat.reduceLT,implies_true,Int.natCast_zero,mF_zero,z6u,prM]) ?_
 rintro i ⟨hi,hal⟩ KL hKL
 by_cases hlt:i<rs.length
 ·have hd:decide ((i:Int)<(rs.length:Int))=true:=by simpa using hlt
  have hi0:(0≤(i:Int))=True:=eq_true (by omega)
  have hml:(i<maxLen)=True:=eq_true (by unfold maxLen;omega)
  obtain ⟨r,hri⟩:=z01 hlt
  have m1:=z0e hri
  have hac:=hac r
  rw [drop_at hri,List.all_cons] at hal
  cases ha:accB l ss.length r with
  | false =>
   rw [ha,Bool.false_and] at hal
   rw [ha] at hac
   have ho:okM l ss ps rs=false:=by simp only [okM,hal,Bool.and_false]
   have hx:outM l ss ps rs = []:=by simp [outM,ho]
   have hy:errM l ss ps rs=1:=by simp [errM,ho]
   repeat' (first|refine T.zk fun K hK=>?_|apply T.block|(refine T.reg (by kernel_rfl) fun K' hK'=>?_;simp only [bz];(repeat' (first|(with_reducible refine WL.fin ?_;apply hK';clear hK' K')|((with_reducible refine WL.step fun K2 hK2=>?_);simp only [simprocAttr,implies_true,amz,zb,tys,hrl,hd,hi0,Int.toNat_natCast,m1];(repeat' (first|with_reducible (first|(apply hK2;clear hK2 K2)|apply And.intro|intro hb)|((with_reducible first|apply zh|apply zl);case h=>exact CallV.plain (Ent.of Tryd.func18 (by kernel_rfl) rfl) (hac) (by simp [AV.okB]))))))))|apply T.skip|apply T.exit|refine T.zf rfl ?_|refine T.ze rfl ?_|refine T.cond rfl (fun hc=>?_) (fun hc=>?_)|apply T.ret|simp only [za,z8,reduceIte,Nat.reduceEqDiff]|((repeat ((fail_if_success apply hK);clear hK K));apply hK;clear hK K))
   refine qf.retW (.inr rfl) Tryd.results10 (s':=⟨[(4,.p (.seq 7 [])),(5,.int 1)],[],117,0⟩) (by refine zi.of' rfl ?_;simp only [wks,reduceIte,Nat.reduceEqDiff,ASt.okB,AV.okB,Nat.reduceLT,implies_true,]) ?_
   simp only [zR,zA,zB,simprocAttr,implies_true,amz,zb,tys,hx,hy,List.map_nil]
  | true =>
   rw [ha,Bool.true_and] at hal
   rw [ha] at hac
   have hKL : ∀ (s' : ASt) (j:Nat),zi s' ⟨[(1,.p (.seq 2 (rowP rs))),(2,.ptr 8 0),(6,.own 6),(20,.p (.seq 2 (rowP rs))),(21,.int rs.length),(22,.int j)],[(6,prM (some bp) j (mF l rs j)),(8,.boxP none 28 [.p (.seq 9 (l.map evC)),.p (.seq 2 (rowP ss)),.p (.seq 1 (rowZ ps))])],117,9⟩→j=i+1→KL s':=fun s' j h1 h2=>hKL s' j h1 ⟨by omega,by subst h2;exact hal⟩ (by omega)
   obtain ⟨e,f,hra,hx2⟩:=z5g ha
   have hkk:keyR l r=keyL (loE e f) (hiE e f):=by obtain ⟨h3,h4⟩:=hra.at;rw [keyR,h3,h4]
   obtain ⟨hve,hvf,_⟩:=wf_mem hel hra
   have hi1:(0≤r.1)=True:=eq_true hra.i0
   have hj1:(0≤r.2)=True:=eq_true (by have:=hra.i0;have:=hra.ij;omega)
   have me:=z1b hra.e
   have mf:=z1b hra.f
   have hoe:=of_ok e
   have hof:=of_ok f
   have hcm:=z6U e f
   have hgt:=cmp3_gt e f
   simp only [evA,evC,inA,List.map_cons,List.map_nil] at hoe hof hcm
   cases hg:qW e f with
   | false =>
    rw [hg] at hgt
    have hko:=z1L hve.fn hve.pc hve.kind hvf.fn hvf.pc hvf.kind
    have hwf:=z7e hve hvf
    have hkr:keyR l r=keyL e f:=by rw [hkk];simp [loE,hiE,hg]
    have hat:=z2N z4S (mF l rs i) hwf
    have hup:=fun v=>z3Q z4S (mF l rs i) hwf v
    have hmf:=mF_upd (l:=l) hri
    rw [hkr] at hmf
    have hmk:mF l rs i (keyL e f)=(fndF (keyR l) (keyL e f) (rs.take i)).map foV:=rfl
    repeat' (first|refine T.zk fun K hK=>?_|apply T.block|(refine T.reg (by kernel_rfl) fun K' hK'=>?_;simp only [bz];(repeat' (first|(with_reducible refine WL.fin ?_;apply hK';clear hK' K')|((with_reducible refine WL.step fun K2 hK2=>?_);simp only [simprocAttr,implies_true,amz,zb,tys,hrl,hd,hi0,Int.toNat_natCast,m1];(repeat' (first|with_reducible (first|(apply hK2;clear hK2 K2)|apply And.intro|intro hb)|((with_reducible first|apply zh|apply zl);case h=>exact CallV.plain (Ent.of Tryd.func18 (by kernel_rfl) rfl) (hac) (by simp [AV.okB]))))))))|apply T.skip|apply T.exit|refine T.zf rfl ?_|refine T.ze rfl ?_|refine T.cond rfl (fun hc=>?_) (fun hc=>?_)|apply T.ret|simp only [za,z8,reduceIte,Nat.reduceEqDiff]|((repeat ((fail_if_success apply hK);clear hK K));apply hK;clear hK K))
    refine T.comm [some (0,1),some (0,1),some (0,1),some (0,1),some (0,1),some (0,1),some (0,1),some (0,1),some (0,1),some (0,1),some (0,1),some (0,1),some (0,1),some (0,1),some (0,1),none,none] (by kernel_rfl) (by kernel_rfl) fun K' hK'=>?_;simp only [List.map_cons,List.map_nil,List.zip_cons_cons,List.zip_nil_left];(repeat' (first|(with_reducible refine WC.fin ?_;apply hK';clear hK' K')|((first|(with_reducible refine WC.z4M fun K2 hK2=>?_)|(with_reducible refine WC.stepW fun K2 hK2=>?_));simp only [simprocAttr,implies_true,amz,zb,WCg,WCv,WOw,allP,dav,Chk,List.filter_cons,List.filter_nil,bne_self_eq_false,Nat.reduceBneDiff,Bool.false_eq_true,tys,hlm,hi1,hj1,me,mf];(repeat' (first|(with_reducible refine hK2 _ _ ?_;clear hK2 K2)|with_reducible (first|(apply hK2;clear hK2 K2)|apply And.intro|intro hb)|(with_reducible rfl)|((with_reducible show @Eq ASt _ _);rfl)|((with_reducible first|apply zh|apply zl);case h=>exact CallV.plain (Ent.of Tryd.func19 (by kernel_rfl) rfl) (hoe) (by simp [AV.okB]))|((with_reducible first|apply zh|apply zl);case h=>exact CallV.plain (Ent.of Tryd.func19 (by kernel_rfl) rfl) (hof) (by simp [AV.okB])))))));all_goals ((try simp only [za,z8,reduceIte,Nat.reduceEqDiff]);(try ((repeat ((fail_if_success apply hK);clear hK K));apply hK;clear hK K)))
    repeat' (first|refine T.zk fun K hK=>?_|apply T.block|apply T.skip|apply T.exit|refine T.zf rfl ?_|refine T.ze rfl ?_|refine T.cond rfl (fun hc=>?_) (fun hc=>?_)|apply T.ret|simp only [za,z8,reduceIte,Nat.reduceEqDiff]|((repeat ((fail_if_success apply hK);clear hK K));apply hK;clear hK K))
    (refine T.reg (by kernel_rfl) fun K' hK'=>?_;simp only [bz];(repeat' (first|(with_reducible refine WL.fin ?_;apply hK';clear hK' K')|((with_reducible refine WL.step fun K2 hK2=>?_);simp only [simprocAttr,implies_true,amz,zb,tys,hgt];(repeat' (first|with_reducible (first|(apply hK2;clear hK2 K2)|apply And.intro|intro hb)|((with_reducible first|apply zh|apply zl);case h=>exact CallV.plain (Ent.of Tryd.func20 (by kernel_rfl) rfl) (hcm) (by simp [AV.okB])))))));all_goals ((try simp only [za,z8,reduceIte,Nat.reduceEqDiff]);(try ((repeat ((fail_if_success apply hK);clear hK K));apply hK;clear hK K))))
    repeat' (first|refine T.zk fun K hK=>?_|apply T.block|apply T.skip|apply T.exit|refine T.zf rfl ?_|refine T.ze rfl ?_|refine T.cond rfl (fun hc=>?_) (fun hc=>?_)|apply T.ret|simp only [za,z8,reduceIte,Nat.reduceEqDiff]|((repeat ((fail_if_success apply hK);clear hK K));apply hK;clear hK K))
    cases hfo:fndF (keyR l) (keyL e f) (rs.take i) with
    | none =>
     rw [hfo] at hmk hmf
     simp only [Option.map_none,keyL] at hmk
     simp only [upF,foV] at hmf
     have hup2:=hup (.agg #[.int .i64 r.1,.int .i64 r.2,.int .i64 1])
     rw [hmf] at hup2
     simp only [keyL,foV] at hko hat hup2
     repeat' (first|refine T.zk fun K hK=>?_|apply T.block|(refine T.reg (by kernel_rfl) fun K' hK'=>?_;simp only [bz];(with_reducible repeat' (first|(apply WL.fin;apply hK';clear hK' K')|(refine WL.step fun K2 hK2=>?_;simp only [simprocAttr,implies_true,amz,zb,tys,hko,hat,hml,qY,hup2,hmk,Option.getD_none,Option.isSome_none,cv_z3,Bool.not_false,hw1];repeat' (first|(apply hK2;clear hK2 K2)|apply And.intro|intro hb)))))|apply T.skip|apply T.exit|refine T.zf rfl ?_|refine T.ze rfl ?_|refine T.cond rfl (fun hc=>?_) (fun hc=>?_)|apply T.ret|simp only [za,z8,reduceIte,Nat.reduceEqDiff]|((repeat ((fail_if_success apply hK);clear hK K));apply hK;clear hK K))
     refine hKL _ (i+1) (by refine zi.of' rfl ?_;simp only [wks,reduceIte,Nat.reduceEqDiff,ASt.okB,AV.okB,Nat.reduceLT,implies_true,zT (show i<1152921504606846976 by omega),]) rfl
    | some p =>
     obtain ⟨g,c⟩:=p
     obtain ⟨c0,c1,_⟩:=z1c hfo
     have hcl:(rs.take i).length≤1000:=by rw [List.length_take];omega
     have hwc:IntKind.i64.wrap (c+1)=c+1:=z04 (by omega) (by omega)
     rw [hfo] at hmk hmf
     simp only [Option.map_some,keyL] at hmk
     simp only [upF] at hmf
     by_cases q1:r.2<g.2
     ·have d1:decide (r.2<g.2)=true:=by simpa using q1
      have hea:earB r g=true:=by unfold earB;rw [Bool.eq_iff_iff];simp;omega
      rw [hea,if_pos rfl] at hmf
      simp only [foV] at hmf
      have hup2:=hup (.agg #[.int .i64 r.1,.int .i64 r.2,.int .i64 (c+1)])
      rw [hmf] at hup2
      simp only [keyL] at hko hat hup2
      repeat' (first|refine T.zk fun K hK=>?_|apply T.block|(refine T.reg (by kernel_rfl) fun K' hK'=>?_;simp only [bz];(with_reducible repeat' (first|(apply WL.fin;apply hK';clear hK' K')|(refine WL.step fun K2 hK2=>?_;simp only [simprocAttr,implies_true,amz,zb,tys,hko,hat,hml,qY,hup2,hmk,Option.getD_some,Option.isSome_some,z4J,Bool.not_true,hwc,d1];repeat' (first|(apply hK2;clear hK2 K2)|apply And.intro|intro hb)))))|apply T.skip|apply T.exit|refine T.zf rfl ?_|refine T.ze rfl ?_|refine T.cond rfl (fun hc=>?_) (fun hc=>?_)|apply T.ret|simp only [za,z8,reduceIte,Nat.reduceEqDiff]|((repeat ((fail_if_success apply hK);clear hK K));apply hK;clear hK K))
      refine hKL _ (i+1) (by refine zi.of' rfl ?_;simp only [wks,reduceIte,Nat.reduceEqDiff,ASt.okB,AV.okB,Nat.reduceLT,implies_true,zT (show i<1152921504606846976 by omega)]) rfl
     ·have d1:decide (r.2<g.2)=false:=by simpa using q1
      by_cases q2:r.2=g.2
      ·have d2:(r.2==g.2)=true:=by simpa using q2
       by_cases q3:r.1<g.1
       ·have d3:decide (r.1<g.1)=true:=by simpa using q3
        have hea:earB r g=true:=by unfold earB;rw [Bool.eq_iff_iff];simp;omega
        rw [hea,if_pos rfl] at hmf
        simp only [foV] at hmf
        have hup2:=hup (.agg #[.int .i64 r.1,.int .i64 r.2,.int .i64 (c+1)])
        rw [hmf] at hup2
        simp only [keyL] at hko hat hup2
        repeat' (first|refine T.zk fun K hK=>?_|apply T.block|(refine T.reg (by kernel_rfl) fun K' hK'=>?_;simp only [bz];(with_reducible repeat' (first|(apply WL.fin;apply hK';clear hK' K')|(refine WL.step fun K2 hK2=>?_;simp only [simprocAttr,implies_true,amz,zb,tys,hko,hat,hml,qY,hup2,hmk,Option.getD_some,Option.isSome_some,z4J,Bool.not_true,hwc,d1,d2,d3];repeat' (first|(apply hK2;clear hK2 K2)|apply And.intro|intro hb)))))|apply T.skip|apply T.exit|refine T.zf rfl ?_|refine T.ze rfl ?_|refine T.cond rfl (fun hc=>?_) (fun hc=>?_)|apply T.ret|simp only [za,z8,reduceIte,Nat.reduceEqDiff]|((repeat ((fail_if_success apply hK);clear hK K));apply hK;clear hK K))
        refine hKL _ (i+1) (by refine zi.of' rfl ?_;simp only [wks,reduceIte,Nat.reduceEqDiff,ASt.okB,AV.okB,Nat.reduceLT,implies_true,zT (show i<1152921504606846976 by omega)]) rfl
       ·have d3:decide (r.1<g.1)=false:=by simpa using q3
        have hea:earB r g=false:=by unfold earB;rw [Bool.eq_false_iff];simp;omega
        rw [hea,if_neg (by simp)] at hmf
        simp only [foV] at hmf
        have hup2:=hup (.agg #[.int .i64 g.1,.int .i64 g.2,.int .i64 (c+1)])
        rw [hmf] at hup2
        simp only [keyL] at hko hat hup2
        repeat' (first|refine T.zk fun K hK=>?_|apply T.block|(refine T.reg (by kernel_rfl) fun K' hK'=>?_;simp only [bz];(with_reducible repeat' (first|(apply WL.fin;apply hK';clear hK' K')|(refine WL.step fun K2 hK2=>?_;simp only [simprocAttr,implies_true,amz,zb,tys,hko,hat,hml,qY,hup2,hmk,Option.getD_some,Option.isSome_some,z4J,Bool.not_true,hwc,d1,d2,d3];repeat' (first|(apply hK2;clear hK2 K2)|apply And.intro|intro hb)))))|apply T.skip|apply T.exit|refine T.zf rfl ?_|refine T.ze rfl ?_|refine T.cond rfl (fun hc=>?_) (fun hc=>?_)|apply T.ret|simp only [za,z8,reduceIte,Nat.reduceEqDiff]|((repeat ((fail_if_success apply hK);clear hK K));apply hK;clear hK K))
        refine hKL _ (i+1) (by refine zi.of' rfl ?_;simp only [wks,reduceIte,Nat.reduceEqDiff,ASt.okB,AV.okB,Nat.reduceLT,implies_true,zT (show i<1152921504606846976 by omega)]) rfl
      ·have d2:(r.2==g.2)=false:=by simpa using q2
       have hea:earB r g=false:=by unfold earB;rw [Bool.eq_false_iff];simp;omega
       rw [hea,if_neg (by simp)] at hmf
       simp only [foV] at hmf
       have hup2:=hup (.agg #[.int .i64 g.1,.int .i64 g.2,.int .i64 (c+1)])
       rw [hmf] at hup2
       simp only [keyL] at hko hat hup2
       repeat' (first|refine T.zk fun K hK=>?_|apply T.block|(refine T.reg (by kernel_rfl) fun K' hK'=>?_;simp only [bz];(with_reducible repeat' (first|(apply WL.fin;apply hK';clear hK' K')|(refine WL.step fun K2 hK2=>?_;simp only [simprocAttr,implies_true,amz,zb,tys,hko,hat,hml,qY,hup2,hmk,Option.getD_some,Option.isSome_some,z4J,Bool.not_true,hwc,d1,d2];repeat' (first|(apply hK2;clear hK2 K2)|apply And.intro|intro hb)))))|apply T.skip|apply T.exit|refine T.zf rfl ?_|refine T.ze rfl ?_|refine T.cond rfl (fun hc=>?_) (fun hc=>?_)|apply T.ret|simp only [za,z8,reduceIte,Nat.reduceEqDiff]|((repeat ((fail_if_success apply hK);clear hK K));apply hK;clear hK K))
       refine hKL _ (i+1) (by refine zi.of' rfl ?_;simp only [wks,reduceIte,Nat.reduceEqDiff,ASt.okB,AV.okB,Nat.reduceLT,implies_true,zT (show i<1152921504606846976 by omega)]) rfl
   | true =>
    rw [hg] at hgt
    have hko:=z1L hvf.fn hvf.pc hvf.kind hve.fn hve.pc hve.kind
    have hwf:=z7e hvf hve
    have hkr:keyR l r=keyL f e:=by rw [hkk];simp [loE,hiE,hg]
    have hat:=z2N z4S (mF l rs i) hwf
    have hup:=fun v=>z3Q z4S (mF l rs i) hwf v
    have hmf:=mF_upd (l:=l) hri
    rw [hkr] at hmf
    have hmk:mF l rs i (keyL f e)=(fndF (keyR l) (keyL f e) (rs.take i)).map foV:=rfl
    repeat' (first|refine T.zk fun K hK=>?_|apply T.block|(refine T.reg (by kernel_rfl) fun K' hK'=>?_;simp only [bz];(repeat' (first|(with_reducible refine WL.fin ?_;apply hK';clear hK' K')|((with_reducible refine WL.step fun K2 hK2=>?_);simp only [simprocAttr,implies_true,amz,zb,tys,hrl,hd,hi0,Int.toNat_natCast,m1];(repeat' (first|with_reducible (first|(apply hK2;clear hK2 K2)|apply And.intro|intro hb)|((with_reducible first|apply zh|apply zl);case h=>exact CallV.plain (Ent.of Tryd.func18 (by kernel_rfl) rfl) (hac) (by simp [AV.okB]))))))))|apply T.skip|apply T.exit|refine T.zf rfl ?_|refine T.ze rfl ?_|refine T.cond rfl (fun hc=>?_) (fun hc=>?_)|apply T.ret|simp only [za,z8,reduceIte,Nat.reduceEqDiff]|((repeat ((fail_if_success apply hK);clear hK K));apply hK;clear hK K))
    refine T.comm [some (0,1),some (0,1),some (0,1),some (0,1),some (0,1),some (0,1),some (0,1),some (0,1),some (0,1),some (0,1),some (0,1),some (0,1),some (0,1),some (0,1),some (0,1),none,none] (by kernel_rfl) (by kernel_rfl) fun K' hK'=>?_;simp only [List.map_cons,List.map_nil,List.zip_cons_cons,List.zip_nil_left];(repeat' (first|(with_reducible refine WC.fin ?_;apply hK';clear hK' K')|((first|(with_reducible refine WC.z4M fun K2 hK2=>?_)|(with_reducible refine WC.stepW fun K2 hK2=>?_));simp only [simprocAttr,implies_true,amz,zb,WCg,WCv,WOw,allP,dav,Chk,List.filter_cons,List.filter_nil,bne_self_eq_false,Nat.reduceBneDiff,Bool.false_eq_true,tys,hlm,hi1,hj1,me,mf];(repeat' (first|(with_reducible refine hK2 _ _ ?_;clear hK2 K2)|with_reducible (first|(apply hK2;clear hK2 K2)|apply And.intro|intro hb)|(with_reducible rfl)|((with_reducible show @Eq ASt _ _);rfl)|((with_reducible first|apply zh|apply zl);case h=>exact CallV.plain (Ent.of Tryd.func19 (by kernel_rfl) rfl) (hoe) (by simp [AV.okB]))|((with_reducible first|apply zh|apply zl);case h=>exact CallV.plain (Ent.of Tryd.func19 (by kernel_rfl) rfl) (hof) (by simp [AV.okB])))))));all_goals ((try simp only [za,z8,reduceIte,Nat.reduceEqDiff]);(try ((repeat ((fail_if_success apply hK);clear hK K));apply hK;clear hK K)))
    repeat' (first|refine T.zk fun K hK=>?_|apply T.block|apply T.skip|apply T.exit|refine T.zf rfl ?_|refine T.ze rfl ?_|refine T.cond rfl (fun hc=>?_) (fun hc=>?_)|apply T.ret|simp only [za,z8,reduceIte,Nat.reduceEqDiff]|((repeat ((fail_if_success apply hK);clear hK K));apply hK;clear hK K))
    (refine T.reg (by kernel_rfl) fun K' hK'=>?_;simp only [bz];(repeat' (first|(with_reducible refine WL.fin ?_;apply hK';clear hK' K')|((with_reducible refine WL.step fun K2 hK2=>?_);simp only [simprocAttr,implies_true,amz,zb,tys,hgt];(repeat' (first|with_reducible (first|(apply hK2;clear hK2 K2)|apply And.intro|intro hb)|((with_reducible first|apply zh|apply zl);case h=>exact CallV.plain (Ent.of Tryd.func20 (by kernel_rfl) rfl) (hcm) (by simp [AV.okB])))))));all_goals ((try simp only [za,z8,reduceIte,Nat.reduceEqDiff]);(try ((repeat ((fail_if_success apply hK);clear hK K));apply hK;clear hK K))))
    repeat' (first|refine T.zk fun K hK=>?_|apply T.block|apply T.skip|apply T.exit|refine T.zf rfl ?_|refine T.ze rfl ?_|refine T.cond rfl (fun hc=>?_) (fun hc=>?_)|apply T.ret|simp only [za,z8,reduceIte,Nat.reduceEqDiff]|((repeat ((fail_if_success apply hK);clear hK K));apply hK;clear hK K))
    (refine T.reg (by kernel_rfl) fun K' hK'=>?_;simp only [bz];(with_reducible repeat' (first|(apply WL.fin;apply hK';clear hK' K')|(refine WL.step fun K2 hK2=>?_;simp only [simprocAttr,implies_true,amz,zb,tys];repeat' (first|(apply hK2;clear hK2 K2)|apply And.intro|intro hb))));all_goals ((try simp only [za,z8,reduceIte,Nat.reduceEqDiff]);(try ((repeat ((fail_if_success apply hK);clear hK K));apply hK;clear hK K))))
    repeat' (first|refine T.zk fun K hK=>?_|apply T.block|apply T.skip|apply T.exit|refine T.zf rfl ?_|refine T.ze rfl ?_|refine T.cond rfl (fun hc=>?_) (fun hc=>?_)|apply T.ret|simp only [za,z8,reduceIte,Nat.reduceEqDiff]|((repeat ((fail_if_success apply hK);clear hK K));apply hK;clear hK K))
    cases hfo:fndF (keyR l) (keyL f e) (rs.take i) with
    | none =>
     rw [hfo] at hmk hmf
     simp only [Option.map_none,keyL] at hmk
     simp only [upF,foV] at hmf
     have hup2:=hup (.agg #[.int .i64 r.1,.int .i64 r.2,.int .i64 1])
     rw [hmf] at hup2
     simp only [keyL,foV] at hko hat hup2
     repeat' (first|refine T.zk fun K hK=>?_|apply T.block|(refine T.reg (by kernel_rfl) fun K' hK'=>?_;simp only [bz];(with_reducible repeat' (first|(apply WL.fin;apply hK';clear hK' K')|(refine WL.step fun K2 hK2=>?_;simp only [simprocAttr,implies_true,amz,zb,tys,hko,hat,hml,qY,hup2,hmk,Option.getD_none,Option.isSome_none,cv_z3,Bool.not_false,hw1];repeat' (first|(apply hK2;clear hK2 K2)|apply And.intro|intro hb)))))|apply T.skip|apply T.exit|refine T.zf rfl ?_|refine T.ze rfl ?_|refine T.cond rfl (fun hc=>?_) (fun hc=>?_)|apply T.ret|simp only [za,z8,reduceIte,Nat.reduceEqDiff]|((repeat ((fail_if_success apply hK);clear hK K));apply hK;clear hK K))
     refine hKL _ (i+1) (by refine zi.of' rfl ?_;simp only [wks,reduceIte,Nat.reduceEqDiff,ASt.okB,AV.okB,Nat.reduceLT,implies_true,zT (show i<1152921504606846976 by omega),]) rfl
    | some p =>
     obtain ⟨g,c⟩:=p
     obtain ⟨c0,c1,_⟩:=z1c hfo
     have hcl:(rs.take i).length≤1000:=by rw [List.length_take];omega
     have hwc:IntKind.i64.wrap (c+1)=c+1:=z04 (by omega) (by omega)
     rw [hfo] at hmk hmf
     simp only [Option.map_some,keyL] at hmk
     simp only [upF] at hmf
     by_cases q1:r.2<g.2
     ·have d1:decide (r.2<g.2)=true:=by simpa using q1
      have hea:earB r g=true:=by unfold earB;rw [Bool.eq_iff_iff];simp;omega
      rw [hea,if_pos rfl] at hmf
      simp only [foV] at hmf
      have hup2:=hup (.agg #[.int .i64 r.1,.int .i64 r.2,.int .i64 (c+1)])
      rw [hmf] at hup2
      simp only [keyL] at hko hat hup2
      repeat' (first|refine T.zk fun K hK=>?_|apply T.block|(refine T.reg (by kernel_rfl) fun K' hK'=>?_;simp only [bz];(with_reducible repeat' (first|(apply WL.fin;apply hK';clear hK' K')|(refine WL.step fun K2 hK2=>?_;simp only [simprocAttr,implies_true,amz,zb,tys,hko,hat,hml,qY,hup2,hmk,Option.getD_some,Option.isSome_some,z4J,Bool.not_true,hwc,d1];repeat' (first|(apply hK2;clear hK2 K2)|apply And.intro|intro hb)))))|apply T.skip|apply T.exit|refine T.zf rfl ?_|refine T.ze rfl ?_|refine T.cond rfl (fun hc=>?_) (fun hc=>?_)|apply T.ret|simp only [za,z8,reduceIte,Nat.reduceEqDiff]|((repeat ((fail_if_success apply hK);clear hK K));apply hK;clear hK K))
      refine hKL _ (i+1) (by refine zi.of' rfl ?_;simp only [wks,reduceIte,Nat.reduceEqDiff,ASt.okB,AV.okB,Nat.reduceLT,implies_true,zT (show i<1152921504606846976 by omega)]) rfl
     ·have d1:decide (r.2<g.2)=false:=by simpa using q1
      by_cases q2:r.2=g.2
      ·have d2:(r.2==g.2)=true:=by simpa using q2
       by_cases q3:r.1<g.1
       ·have d3:decide (r.1<g.1)=true:=by simpa using q3
        have hea:earB r g=true:=by unfold earB;rw [Bool.eq_iff_iff];simp;omega
        rw [hea,if_pos rfl] at hmf
        simp only [foV] at hmf
        have hup2:=hup (.agg #[.int .i64 r.1,.int .i64 r.2,.int .i64 (c+1)])
        rw [hmf] at hup2
        simp only [keyL] at hko hat hup2
        repeat' (first|refine T.zk fun K hK=>?_|apply T.block|(refine T.reg (by kernel_rfl) fun K' hK'=>?_;simp only [bz];(with_reducible repeat' (first|(apply WL.fin;apply hK';clear hK' K')|(refine WL.step fun K2 hK2=>?_;simp only [simprocAttr,implies_true,amz,zb,tys,hko,hat,hml,qY,hup2,hmk,Option.getD_some,Option.isSome_some,z4J,Bool.not_true,hwc,d1,d2,d3];repeat' (first|(apply hK2;clear hK2 K2)|apply And.intro|intro hb)))))|apply T.skip|apply T.exit|refine T.zf rfl ?_|refine T.ze rfl ?_|refine T.cond rfl (fun hc=>?_) (fun hc=>?_)|apply T.ret|simp only [za,z8,reduceIte,Nat.reduceEqDiff]|((repeat ((fail_if_success apply hK);clear hK K));apply hK;clear hK K))
        refine hKL _ (i+1) (by refine zi.of' rfl ?_;simp only [wks,reduceIte,Nat.reduceEqDiff,ASt.okB,AV.okB,Nat.reduceLT,implies_true,zT (show i<1152921504606846976 by omega)]) rfl
       ·have d3:decide (r.1<g.1)=false:=by simpa using q3
        have hea:earB r g=false:=by unfold earB;rw [Bool.eq_false_iff];simp;omega
        rw [hea,if_neg (by simp)] at hmf
        simp only [foV] at hmf
        have hup2:=hup (.agg #[.int .i64 g.1,.int .i64 g.2,.int .i64 (c+1)])
        rw [hmf] at hup2
        simp only [keyL] at hko hat hup2
        repeat' (first|refine T.zk fun K hK=>?_|apply T.block|(refine T.reg (by kernel_rfl) fun K' hK'=>?_;simp only [bz];(with_reducible repeat' (first|(apply WL.fin;apply hK';clear hK' K')|(refine WL.step fun K2 hK2=>?_;simp only [simprocAttr,implies_true,amz,zb,tys,hko,hat,hml,qY,hup2,hmk,Option.getD_some,Option.isSome_some,z4J,Bool.not_true,hwc,d1,d2,d3];repeat' (first|(apply hK2;clear hK2 K2)|apply And.intro|intro hb)))))|apply T.skip|apply T.exit|refine T.zf rfl ?_|refine T.ze rfl ?_|refine T.cond rfl (fun hc=>?_) (fun hc=>?_)|apply T.ret|simp only [za,z8,reduceIte,Nat.reduceEqDiff]|((repeat ((fail_if_success apply hK);clear hK K));apply hK;clear hK K))
        refine hKL _ (i+1) (by refine zi.of' rfl ?_;simp only [wks,reduceIte,Nat.reduceEqDiff,ASt.okB,AV.okB,Nat.reduceLT,implies_true,zT (show i<1152921504606846976 by omega)]) rfl
      ·have d2:(r.2==g.2)=false:=by simpa using q2
       have hea:earB r g=false:=by unfold earB;rw [Bool.eq_false_iff];simp;omega
       rw [hea,if_neg (by simp)] at hmf
       simp only [foV] at hmf
       have hup2:=hup (.agg #[.int .i64 g.1,.int .i64 g.2,.int .i64 (c+1)])
       rw [hmf] at hup2
       simp only [keyL] at hko hat hup2
       repeat' (first|refine T.zk fun K hK=>?_|apply T.block|(refine T.reg (by kernel_rfl) fun K' hK'=>?_;simp only [bz];(with_reducible repeat' (first|(apply WL.fin;apply hK';clear hK' K')|(refine WL.step fun K2 hK2=>?_;simp only [simprocAttr,implies_true,amz,zb,tys,hko,hat,hml,qY,hup2,hmk,Option.getD_some,Option.isSome_some,z4J,Bool.not_true,hwc,d1,d2];repeat' (first|(apply hK2;clear hK2 K2)|apply And.intro|intro hb)))))|apply T.skip|apply T.exit|refine T.zf rfl ?_|refine T.ze rfl ?_|refine T.cond rfl (fun hc=>?_) (fun hc=>?_)|apply T.ret|simp only [za,z8,reduceIte,Nat.reduceEqDiff]|((repeat ((fail_if_success apply hK);clear hK K));apply hK;clear hK K))
       refine hKL _ (i+1) (by refine zi.of' rfl ?_;simp only [wks,reduceIte,Nat.reduceEqDiff,ASt.okB,AV.okB,Nat.reduceLT,implies_true,zT (show i<1152921504606846976 by omega)]) rfl
 have hd:decide ((i:Int)<(rs.length:Int))=false:=by simpa using hlt
 obtain rfl:i=rs.length:=by omega
 rw [List.drop_eq_nil_of_le (by omega),List.all_nil] at hal
 have hacc : ∀ r ∈ rs,accB l ss.length r=true:=fun r hr=>List.all_eq_true.1 hal r hr
 have hrac : ∀ r ∈ rs,∃ e f,Rac l r e f∧stB ss.length e=true∧stB ss.length f=true∧keyR l r=keyL (loE e f) (hiE e f) ∧ ∀ c,repR l ss ps r c=z3m ss ps (loE e f) (hiE e f) c:=fun r hr=>by
  obtain ⟨e,f,h1,h2⟩:=z5g (hacc r hr)
  obtain ⟨h3,h4⟩:=h1.at
  simp only [accE,Bool.and_eq_true] at h2
  exact ⟨e,f,h1,h2.1.2,h2.2,by rw [keyR,h3,h4],fun c=>by rw [repR,h3,h4]⟩
 have hkw : ∀ k ∈ rs.map (keyR l),WfN 6 k:=fun k hk=>by
  obtain ⟨r,hr,rfl⟩:=List.mem_map.1 hk
  obtain ⟨e,f,h1,_,_,h2,_⟩:=hrac r hr
  rw [h2];exact (wf_mem hel h1).2.2
 have ho:okM l ss ps rs=true:=by simp only [okM,hv,hal,Bool.and_self]
 have hx:outM l ss ps rs=outR l ss ps rs:=by simp [outM,ho]
 have hy:errM l ss ps rs=0:=by simp [errM,ho]
 have hkF:=keysF_ok bp rs.length (mF l rs rs.length)
 repeat' (first|refine T.zk fun K hK=>?_|apply T.block|apply T.skip|apply T.exit|refine T.zf rfl ?_|refine T.ze rfl ?_|refine T.cond rfl (fun hc=>?_) (fun hc=>?_)|apply T.ret|simp only [za,z8,reduceIte,Nat.reduceEqDiff]|((repeat ((fail_if_success apply hK);clear hK K));apply hK;clear hK K))
 (refine T.reg (by kernel_rfl) fun K' hK'=>?_;simp only [bz];(with_reducible repeat' (first|(apply WL.fin;apply hK';clear hK' K')|(refine WL.step fun K2 hK2=>?_;simp only [simprocAttr,implies_true,amz,zb,tys,hrl,hd];repeat' (first|(apply hK2;clear hK2 K2)|apply And.intro|intro hb))));all_goals ((try simp only [za,z8,reduceIte,Nat.reduceEqDiff]);(try ((repeat ((fail_if_success apply hK);clear hK K));apply hK;clear hK K))))
 repeat' (first|refine T.zk fun K hK=>?_|apply T.block|apply T.skip|apply T.exit|refine T.zf rfl ?_|refine T.ze rfl ?_|refine T.cond rfl (fun hc=>?_) (fun hc=>?_)|apply T.ret|simp only [za,z8,reduceIte,Nat.reduceEqDiff]|((repeat ((fail_if_success apply hK);clear hK K));apply hK;clear hK K))
 (refine T.reg (by kernel_rfl) fun K' hK'=>?_;simp only [bz];(with_reducible repeat' (first|(apply WL.fin;apply hK';clear hK' K')|(refine WL.step fun K2 hK2=>?_;simp only [simprocAttr,implies_true,amz,zb,tys];repeat' (first|(apply hK2;clear hK2 K2)|apply And.intro|intro hb))));all_goals ((try simp only [za,z8,reduceIte,Nat.reduceEqDiff]);(try ((repeat ((fail_if_success apply hK);clear hK K));apply hK;clear hK K))))
 repeat' (first|refine T.zk fun K hK=>?_|apply T.block|apply T.skip|apply T.exit|refine T.zf rfl ?_|refine T.ze rfl ?_|refine T.cond rfl (fun hc=>?_) (fun hc=>?_)|apply T.ret|simp only [za,z8,reduceIte,Nat.reduceEqDiff]|((repeat ((fail_if_success apply hK);clear hK K));apply hK;clear hK K))
 refine T.reg (by kernel_rfl) fun K' hK'=>?_;simp only [bz]
 (with_reducible refine WL.step fun K2 hK2=>?_);simp only [simprocAttr,implies_true,amz,zb,tys];(repeat' (first|with_reducible (first|(apply hK2;clear hK2 K2)|apply And.intro|intro hb)))
 (with_reducible refine WL.step fun K2 hK2=>?_);simp only [simprocAttr,implies_true,amz,zb,tys]
 refine qg 8 _ _ [6] (Ent.of Tryd.func22 (by kernel_rfl) rfl) hkF ?_ ?_ ?_
 ·(refine ⟨Nat.le_of_ble_eq_true rfl,?_,?_⟩ <;> simp only [pz,reduceIte,Nat.reduceEqDiff,AV.okB,Nat.reduceLT,])
 ·simp [AV.okB]
 rintro hp' rr ⟨bm,rfl,rfl⟩
 have hsf:=z5P bm bp rs.length (mF l rs rs.length) (by omega)
 refine ⟨by simp [Kept,hpM,zm,AO.handle],?_⟩
 simp only [hpM] at hsf ⊢
 simp only [cz,ASt.qh,AO.keep,Nat.reduceLeDiff,reduceIte,Nat.reduceEqDiff,AV.qp]
 apply hK2;clear hK2 K2
 (with_reducible refine WL.step fun K2 hK2=>?_);simp only [simprocAttr,implies_true,amz,zb,tys]
 refine qg 8 _ _ [6] (Ent.of Tryd.func21 (by kernel_rfl) rfl) hsf ?_ ?_ ?_
 ·(refine ⟨Nat.le_of_ble_eq_true rfl,?_,?_⟩ <;> simp only [pz,reduceIte,Nat.reduceEqDiff,AV.okB,Nat.reduceLT,])
 ·simp [AV.okB,AV.qp]
 rintro hp' rr ⟨⟨ks,rfl,hks,hkl⟩,rfl⟩
 refine ⟨by simp [Kept,zm,AO.handle],?_⟩
 simp only [cz,ASt.qh,AO.keep,Nat.reduceLeDiff,reduceIte,Nat.reduceEqDiff,AV.qp]
 apply hK2;clear hK2 K2
 have hksl:(ks.map keyC).length=ks.length:=by simp
 (with_reducible refine WL.step fun K2 hK2=>?_);simp only [simprocAttr,implies_true,amz,zb,tys,hksl];(repeat' (first|with_reducible (first|(apply hK2;clear hK2 K2)|apply And.intro|intro hb)))
 (with_reducible refine WL.step fun K2 hK2=>?_);simp only [simprocAttr,implies_true,amz,zb,tys];(repeat' (first|with_reducible (first|(apply hK2;clear hK2 K2)|apply And.intro|intro hb)))
 (with_reducible refine WL.fin ?_);apply hK';clear hK' K';(try simp only [za,z8,reduceIte,Nat.reduceEqDiff]);(try ((repeat ((fail_if_success apply hK);clear hK K));apply hK;clear hK K))
 obtain rfl:=z7p hkw hks
 obtain ⟨ks,hksd⟩ : ∃ ks,ks=z0Q (rs.map (keyR l)):=⟨_,rfl⟩
 have hk6 : ∀ x ∈ ks,x.length=6:=fun x hx=>z3c x ((z0J (n := 6) z3c x).1 (hksd ▸ hx))
 have hkat : ∀ (n:Nat) (k:List Int),ks[n]? = some k → ∃ r c,fndF (keyR l) k rs=some (r,c)∧r ∈ rs∧repK l ss ps rs k=repR l ss ps r c:=fun n k h=>z5C (hksd ▸ h)
 have hkwf : ∀ x ∈ ks,WfN 6 x:=fun x hx=>hkw x ((z0J (n := 6) z3c x).1 (hksd ▸ hx))
 have hxo:outM l ss ps rs=ks.map (repK l ss ps rs):=by rw [hx,outR,hksd]
 rw [← hksd] at hkl hksl ⊢
 clear hks hsf hkF
 refine T.weak (zi.frz _ 0) ?_;simp only [ASt.frz,List.filter_cons,List.filter_nil,bne_self_eq_false,Nat.reduceBneDiff,Bool.false_eq_true,simprocAttr,implies_true,amz,zb,]
 refine T.weak (zi.z6w _ 12 41 7 (show 12<117 by decide) rfl) ?_;simp only [ASt.add,z0E,Nat.reduceAdd]
 repeat' (first|refine T.zk fun K hK=>?_|apply T.block|apply T.skip|apply T.exit|refine T.zf rfl ?_|refine T.ze rfl ?_|refine T.cond rfl (fun hc=>?_) (fun hc=>?_)|apply T.ret|simp only [za,z8,reduceIte,Nat.reduceEqDiff]|((repeat ((fail_if_success apply hK);clear hK K));apply hK;clear hK K))
 refine T.z0o (fun n:Nat=>⟨[(2,.ptr 8 0),(6,.own 6),(12,.own 9),(100,.p (.seq 6 (ks.map keyC))),(101,.int ks.length),(102,.int n)],[(9,.row 41 7 (((ks.take n).map (repK l ss ps rs)).map qJ)),(6,prM (some bp) rs.length (mF l rs rs.length)),(8,.boxP none 28 [.p (.seq 9 (l.map evC)),.p (.seq 2 (rowP ss)),.p (.seq 1 (rowZ ps))])],117,10⟩) (fun n=>n≤ks.length) (fun n=>ks.length-n) 0 (Nat.zero_le _) (by refine zi.of' rfl ?_;simp only [wks,reduceIte,Nat.reduceEqDiff,ASt.okB,AV.okB,Nat.reduceLT,implies_true,Int.natCast_zero,List.take_zero,List.map_nil]) ?_
 intro n hn KL hKL
 by_cases hnl:n<ks.length
 case neg =>
  have hdn:decide ((n:Int)<(ks.length:Int))=false:=by simpa using hnl
  obtain rfl:n=ks.length:=by omega
  rw [List.take_length]
  repeat' (first|refine T.zk fun K hK=>?_|apply T.block|(refine T.reg (by kernel_rfl) fun K' hK'=>?_;simp only [bz];(with_reducible repeat' (first|(apply WL.fin;apply hK';clear hK' K')|(refine WL.step fun K2 hK2=>?_;simp only [simprocAttr,implies_true,amz,zb,tys,hksl,hdn];repeat' (first|(apply hK2;clear hK2 K2)|apply And.intro|intro hb)))))|apply T.skip|apply T.exit|refine T.zf rfl ?_|refine T.ze rfl ?_|refine T.cond rfl (fun hc=>?_) (fun hc=>?_)|apply T.ret|simp only [za,z8,reduceIte,Nat.reduceEqDiff]|((repeat ((fail_if_success apply hK);clear hK K));apply hK;clear hK K))
  refine qf.retW (.inr rfl) Tryd.results10 (zi.frz _ 9) ?_;simp only [zR,zA,zB,ASt.frz,ASt.subst,AO.z4E,AO.z5V,AO.z5R,AO.z5U,AO.z3g,AV.z5S,AV.z5Q,AV.z5T,AV.z3X,AV.z2l,AV.z1h,AV.z3W,AV.z1o,AV.z5c,AV.z1p,List.filter_cons,List.filter_nil,bne_self_eq_false,Nat.reduceBneDiff,Nat.reduceEqDiff,Bool.false_eq_true,simprocAttr,implies_true,amz,zb,tys,hxo,hy]
 have hdn:decide ((n:Int)<(ks.length:Int))=true:=by simpa using hnl
 have hn0:(0≤(n:Int))=True:=eq_true (by omega)
 obtain ⟨k,hk⟩:=z01 hnl
 obtain ⟨rr,cc,hfnd,hrr,hrep⟩:=hkat n k hk
 have hktk:(ks.take (n+1)).map (repK l ss ps rs)=(ks.take n).map (repK l ss ps rs) ++ [repR l ss ps rr cc]:=by
  rw [List.take_add_one,hk,Option.toList_some,List.map_append,List.map_cons,List.map_nil,hrep]
 have hkf:keyR l rr=k:=(z1c hfnd).2.2.2
 obtain ⟨e,f,h1,h2,h3,h5,h4⟩:=hrac rr hrr
 have hde:=z6Y l ss ps hdw hsz hv rr cc e f h1 h2 h3
 rw [← h4,← h5,hkf] at hde
 have hkk:=hkwf k (List.mem_of_getElem? hk)
 have hat:=z2N z4S (mF l rs rs.length) hkk
 rw [show mF l rs rs.length k=some (foV (rr,cc)) by unfold mF;rw [List.take_length,hfnd];rfl] at hat
 have hww:=hkk.2
 obtain ⟨k1,k2,k3,k4,k5,k6,rfl⟩:=z1D hkk.1
 simp only [List.mem_cons,List.not_mem_nil,or_false,forall_eq_or_imp,forall_eq] at hww
 have hko:=z1L hww.1 hww.2.1 hww.2.2.1 hww.2.2.2.1 hww.2.2.2.2.1 hww.2.2.2.2.2
 have mk:=key_at hk
 have htl:(((ks.take n).map (repK l ss ps rs)).map qJ).length=n:=by rw [List.length_map,List.length_map,List.length_take];omega
 have hb1:(n+1≤maxLen)=True:=eq_true (by unfold maxLen;omega)
 have hb2:((n+1)*88≤140737488355328)=True:=eq_true (by omega)
 simp only [trA,keyA,foA,repA,qJ,List.map_cons,List.map_nil] at hde
 repeat' (first|refine T.zk fun K hK=>?_|apply T.block|(refine T.reg (by kernel_rfl) fun K' hK'=>?_;simp only [bz];(with_reducible repeat' (first|(apply WL.fin;apply hK';clear hK' K')|(refine WL.step fun K2 hK2=>?_;simp only [simprocAttr,implies_true,amz,zb,tys,hksl,hdn,hn0,Int.toNat_natCast,mk];repeat' (first|(apply hK2;clear hK2 K2)|apply And.intro|intro hb)))))|apply T.skip|apply T.exit|refine T.zf rfl ?_|refine T.ze rfl ?_|refine T.cond rfl (fun hc=>?_) (fun hc=>?_)|apply T.ret|simp only [za,z8,reduceIte,Nat.reduceEqDiff]|((repeat ((fail_if_success apply hK);clear hK K));apply hK;clear hK K))
 refine T.commT 9 [c0,some (0,1),some (0,1),some (0,1),some (0,1),some (0,1),c0,c0,none] (by kernel_rfl) (by kernel_rfl) fun K' hK'=>?_;simp only [List.map_cons,List.map_nil,List.take_succ_cons,List.take_zero,List.zip_cons_cons,List.zip_nil_left,List.drop_succ_cons,List.drop_zero] at hK' ⊢;(repeat' (first|(with_reducible refine WC.fin ?_;apply hK';clear hK' K')|((first|(with_reducible refine WC.z4M fun K2 hK2=>?_)|(with_reducible refine WC.stepW fun K2 hK2=>?_));simp only [simprocAttr,implies_true,amz,zb,WCg,WCv,WOw,allP,dav,Chk,List.filter_cons,List.filter_nil,bne_self_eq_false,Nat.reduceBneDiff,Bool.false_eq_true,tys,hko,hat,qY,Option.getD_some,z4J,hm1,htl,hb1,hb2,List.length_cons,List.length_nil,Nat.zero_add];(repeat' (first|(with_reducible refine hK2 _ _ ?_;clear hK2 K2)|with_reducible (first|(apply hK2;clear hK2 K2)|apply And.intro|intro hb)|(with_reducible rfl)|((with_reducible show @Eq ASt _ _);rfl)|((with_reducible first|apply zh|apply zl);case h=>exact CallV.plain (Ent.of Tryd.func25 (by kernel_rfl) rfl) (hde) (by simp [AV.okB])))))));all_goals ((repeat' (first|(with_reducible refine WLW.fin ?_)|((with_reducible refine WLW.step fun K2 hK2=>?_);simp only [simprocAttr,implies_true,amz,zb,tys,hko,hat,qY,Option.getD_some,z4J,hm1,htl,hb1,hb2,List.length_cons,List.length_nil,Nat.zero_add];(repeat' (first|with_reducible (first|(apply hK2;clear hK2 K2)|apply And.intro|intro hb)|((with_reducible first|apply zh|apply zl);case h=>exact CallV.plain (Ent.of Tryd.func25 (by kernel_rfl) rfl) (hde) (by simp [AV.okB])))))));all_goals ((try simp only [za,z8,reduceIte,Nat.reduceEqDiff]);(try ((repeat ((fail_if_success apply hK);clear hK K));apply hK;clear hK K))))
 all_goals repeat' (first|refine T.zk fun K hK=>?_|apply T.block|(refine T.reg (by kernel_rfl) fun K' hK'=>?_;simp only [bz];(with_reducible repeat' (first|(apply WL.fin;apply hK';clear hK' K')|(refine WL.step fun K2 hK2=>?_;simp only [simprocAttr,implies_true,amz,zb,tys];repeat' (first|(apply hK2;clear hK2 K2)|apply And.intro|intro hb)))))|apply T.skip|apply T.exit|refine T.zf rfl ?_|refine T.ze rfl ?_|refine T.cond rfl (fun hc=>?_) (fun hc=>?_)|apply T.ret|simp only [za,z8,reduceIte,Nat.reduceEqDiff]|((repeat ((fail_if_success apply hK);clear hK K));apply hK;clear hK K))
 refine hKL _ (n+1) ((zi.ren _ 11 9).trans (by refine zi.of' rfl ?_;simp only [wks,reduceIte,Nat.reduceEqDiff,ASt.okB,AV.okB,Nat.reduceLT,implies_true,ASt.ren,AV.zZ,AV.zF,AV.qd,AV.qz,AV.zW,AV.zD,AV.zq,AV.qc,AV.qR,AV.zC,AV.qj,AO.qD,AO.qG,AO.qE,AO.qF,List.map_cons,List.map_nil,List.filter_cons,List.filter_nil,zm,qy,Nat.reduceBneDiff,bne_self_eq_false,Bool.and_false,Bool.false_and,Bool.false_eq_true,ne_eq,not_false_eq_true,not_true_eq_false,and_self,and_false,zT (show n<1152921504606846976 by omega),hktk,List.map_append,List.map_cons,List.map_nil,qJ])) hnl (by omega)
end Go.Proofs.YtbkkginjfnjffaaDoor
namespace Go.Proofs.YtbkkginjfnjffaaDoor
open Go.RowKit Go.Sort
def ascL:List Int→Bool
 | a :: b :: r=>decide (a<b)&&ascL (b :: r)
 | _=>true
theorem z2W : ∀ {l:List Int},ascL l=true ↔ ∀ (k:Nat) (x y:Int),l[k]? = some x→l[k+1]? = some y→x<y
 | []=>by simp [ascL]
 | [a]=>by simp [ascL]
 | a :: b :: r=>by
  rw [ascL,Bool.and_eq_true,decide_eq_true_eq,z2W]
  constructor
  ·rintro ⟨h1,h2⟩ k x y hx hy
   cases k with
   | zero=>cases hx;cases hy;exact h1
   | succ k=>exact h2 k x y (by simpa using hx) (by simpa using hy)
  ·intro h
   exact ⟨h 0 a b rfl rfl,fun k x y hx hy=>h (k+1) x y (by simpa using hx) (by simpa using hy)⟩
theorem asc_lt {l:List Int} (h:ascL l=true) : ∀ (d k:Nat) (x y:Int),l[k]? = some x→l[k+d+1]? = some y→x<y
 | 0,k,x,y,hx,hy=>z2W.1 h k x y hx hy
 | d+1,k,x,y,hx,hy=>by
  obtain ⟨z,hz⟩:=z01 (l:=l) (k:=k+d+1) (by have:=(List.getElem?_eq_some_iff.1 hy).1;omega)
  have h1:=asc_lt h d k x z hx hz
  have h2:=z2W.1 h (k+d+1) z y hz (by rw [show k+d+1+1=k+(d+1)+1 by omega];exact hy)
  omega
def z4o (l:List Int):Int:=(l[l.length-1]?).getD 0
def hd0:List Int→Bool
 | []=>false
 | a :: _=>a==0
def z0l (st:List Int) (sz:Int):Bool:=hd0 st&&decide (sz≤1099511627776)&&ascL st&&decide (z4o st≤sz)
def cntN (st:List Int) (a:Int):Nat:=(st.takeWhile fun x=>decide (x≤a)).length
theorem z6T (st:List Int) (a:Int):cntN st a≤st.length:=List.Sublist.length_le (List.takeWhile_sublist _)
theorem z3I : ∀ {st:List Int} {a:Int} {k:Nat} {x:Int},ascL st=true→st[k]? = some x→(x≤a↔k<cntN st a)
 | [],_,_,_,_,h=>by simp at h
 | y :: r,a,k,x,hs,h=>by
  have hs2:ascL r=true:=z2W.2 fun k x y hx hy=>z2W.1 hs (k+1) x y (by simpa using hx) (by simpa using hy)
  unfold cntN
  rw [List.takeWhile_cons]
  by_cases hy:y≤a
  ·rw [if_pos (by simpa using hy),List.length_cons]
   cases k with
   | zero=>cases h;simp [hy]
   | succ k =>
    have:=z3I (a:=a) hs2 (show r[k]? = some x by simpa using h)
    unfold cntN at this
    omega
  ·rw [if_neg (by simpa using hy),List.length_nil]
   cases k with
   | zero=>cases h;simp [hy]
   | succ k =>
    have:=asc_lt hs k 0 y x rfl (by rw [Nat.zero_add];exact h)
    omega
def posN (st:List Int) (sz a:Int):Int × Int × Int :=
 if z0l st sz=false then (0,0,1) else if a<0∨sz<a then (0,0,2) else ((cntN st a:Int),a-(st[cntN st a-1]?).getD 0+1,0)
def lnA (st:List Int) (sz:Int):AV := .agg [.p (.seq 1 (rowZ st)),.int sz]
def poA (p:Int × Int × Int):AV := .tup [.int p.1,.int p.2.1,.int p.2.2]
theorem z2o {st:List Int} {sz:Int} : z0l st sz=true ↔ ∃ r,st=0 :: r∧sz≤1099511627776∧ascL st=true∧z4o st≤sz:=by
 unfold z0l
 rw [Bool.and_eq_true,Bool.and_eq_true,Bool.and_eq_true,decide_eq_true_eq,decide_eq_true_eq]
 constructor
 ·rintro ⟨⟨⟨h1,h2⟩,h3⟩,h4⟩
  cases st with
  | nil=>cases h1
  | cons a r =>
   have:a=0:=by simpa [hd0] using h1
   subst this
   exact ⟨r,rfl,h2,h3,h4⟩
 ·rintro ⟨r,rfl,h2,h3,h4⟩
  exact ⟨⟨⟨rfl,h2⟩,h3⟩,h4⟩
theorem z7z {st:List Int} {k:Nat} {x y:Int} (hx:st[k]? = some x) (hy:st[k+1]? = some y):ascL (st.drop k)=(decide (x<y)&&ascL (st.drop (k+1))):=by
 rw [drop_at hx,drop_at hy,ascL]
theorem asc_end {st:List Int} {k:Nat} (h:st.length≤k+1):ascL (st.drop k)=true:=by
 have:(st.drop k).length≤1:=by rw [List.length_drop];omega
 match hl:st.drop k,this with
 | [],_=>rfl
 | [a],_=>rfl
theorem z5v (st:List Int) (sz:Int) (hl:st.length≤1000000):zy Tryd.prog 53 [lnA st sz] (.bool (z0l st sz)):=by
 have hsl:=z07 st
 simp only [lnA]
 cases st with
 | nil =>
  refine zy.of Tryd.func53 rfl 49 rfl (by decide) (by simp [AV.okB]) ?_
  repeat' (first|refine T.zk fun K hK=>?_|apply T.block|(refine T.reg (by kernel_rfl) fun K' hK'=>?_;simp only [bz];(with_reducible repeat' (first|(apply WL.fin;apply hK';clear hK' K')|(refine WL.step fun K2 hK2=>?_;simp only [simprocAttr,implies_true,amz,zb,tys,hsl,List.length_nil,Int.natCast_zero,beq_self_eq_true];repeat' (first|(apply hK2;clear hK2 K2)|apply And.intro|intro hb)))))|apply T.skip|apply T.exit|refine T.zf rfl ?_|refine T.ze rfl ?_|refine T.cond rfl (fun hc=>?_) (fun hc=>?_)|apply T.ret|simp only [za,z8,reduceIte,Nat.reduceEqDiff]|((repeat ((fail_if_success apply hK);clear hK K));apply hK;clear hK K))
  all_goals (refine qf.ret (.inr rfl) Tryd.results53 ?_;simp only [zR,zA,zB,simprocAttr,implies_true,amz,zb,tys,z0l,hd0,Bool.false_and])
 | cons a r =>
 have g0:(((a :: r).length:Int)==0)=false:=by simp;omega
 have r0:(rowZ (a :: r))[0]? = some [PV.val (.int .i64 a)]:=rfl
 have z0:(0≤(0:Int))=True:=eq_true (Int.le_refl 0)
 by_cases ha:a=0
 case neg =>
  have g1:(a != 0)=true:=by simpa using ha
  have he:z0l (a :: r) sz=false:=by simp [z0l,hd0,ha]
  refine zy.of Tryd.func53 rfl 49 rfl (by decide) (by simp [AV.okB]) ?_
  repeat' (first|refine T.zk fun K hK=>?_|apply T.block|(refine T.reg (by kernel_rfl) fun K' hK'=>?_;simp only [bz];(with_reducible repeat' (first|(apply WL.fin;apply hK';clear hK' K')|(refine WL.step fun K2 hK2=>?_;simp only [simprocAttr,implies_true,amz,zb,tys,hsl,g0,r0,g1,Int.toNat_zero,Int.le_refl];repeat' (first|(apply hK2;clear hK2 K2)|apply And.intro|intro hb)))))|apply T.skip|apply T.exit|refine T.zf rfl ?_|refine T.ze rfl ?_|refine T.cond rfl (fun hc=>?_) (fun hc=>?_)|apply T.ret|simp only [za,z8,reduceIte,Nat.reduceEqDiff]|((repeat ((fail_if_success apply hK);clear hK K));apply hK;clear hK K))
  all_goals (refine qf.ret (.inr rfl) Tryd.results53 ?_;simp only [zR,zA,zB,simprocAttr,implies_true,amz,zb,tys,he])
 subst ha
 have g1:((0:Int) != 0)=false:=by simp
 by_cases hz : 1099511627776<sz
 ·have g2:decide (1099511627776<sz)=true:=by simpa using hz
  have he:z0l (0 :: r) sz=false:=by simp [z0l,hd0,Int.not_le.2 hz]
  refine zy.of Tryd.func53 rfl 49 rfl (by decide) (by simp [AV.okB]) ?_
  repeat' (first|refine T.zk fun K hK=>?_|apply T.block|(refine T.reg (by kernel_rfl) fun K' hK'=>?_;simp only [bz];(with_reducible repeat' (first|(apply WL.fin;apply hK';clear hK' K')|(refine WL.step fun K2 hK2=>?_;simp only [simprocAttr,implies_true,amz,zb,tys,hsl,g0,r0,g1,g2,Int.toNat_zero,Int.le_refl];repeat' (first|(apply hK2;clear hK2 K2)|apply And.intro|intro hb)))))|apply T.skip|apply T.exit|refine T.zf rfl ?_|refine T.ze rfl ?_|refine T.cond rfl (fun hc=>?_) (fun hc=>?_)|apply T.ret|simp only [za,z8,reduceIte,Nat.reduceEqDiff]|((repeat ((fail_if_success apply hK);clear hK K));apply hK;clear hK K))
  all_goals (refine qf.ret (.inr rfl) Tryd.results53 ?_;simp only [zR,zA,zB,simprocAttr,implies_true,amz,zb,tys,he])
 have g2:decide (1099511627776<sz)=false:=by simpa using hz
 obtain ⟨s,hs⟩ : ∃ s,s=(0 :: r:List Int):=⟨_,rfl⟩
 have he:z0l s sz=(ascL s&&decide (z4o s≤sz)):=by
  rw [hs];simp [z0l,hd0,Int.not_lt.1 hz]
 have hpos : 0<s.length:=by rw [hs];simp
 rw [← hs] at hsl g0 r0 hl ⊢
 rw [he]
 obtain ⟨t,ht⟩ : ∃ t,t=s.drop 1:=⟨_,rfl⟩
 have htl:t.length=s.length-1:=by rw [ht,List.length_drop]
 have hrt:=z07 t
 have hdr:(rowZ s).drop 1=rowZ t:=by rw [ht];simp [rowZ,List.map_drop]
 have htk:(rowZ s).take s.length=rowZ s:=List.take_of_length_le (by rw [hsl];exact Nat.le_refl _)
 have b1:((1:Int)≤(s.length:Int))=True:=eq_true (by omega)
 have b2:((s.length:Int)≤(s.length:Int))=True:=eq_true (Int.le_refl _)
 have b3:(0≤(1:Int))=True:=eq_true (by omega)
 refine zy.of Tryd.func53 rfl 49 rfl (by decide) (by simp [AV.okB]) ?_
 repeat' (first|refine T.zk fun K hK=>?_|apply T.block|(refine T.reg (by kernel_rfl) fun K' hK'=>?_;simp only [bz];(with_reducible repeat' (first|(apply WL.fin;apply hK';clear hK' K')|(refine WL.step fun K2 hK2=>?_;simp only [simprocAttr,implies_true,amz,zb,tys,hsl,g0,r0,g1,g2,Int.toNat_zero,Int.le_refl,Option.getD_some,Option.getD_none,b1,b2,b3,Int.toNat_natCast,Int.toNat_one,htk,hdr,hrt];repeat' (first|(apply hK2;clear hK2 K2)|apply And.intro|intro hb)))))|apply T.skip|apply T.exit|refine T.zf rfl ?_|refine T.ze rfl ?_|refine T.cond rfl (fun hc=>?_) (fun hc=>?_)|apply T.ret|simp only [za,z8,reduceIte,Nat.reduceEqDiff]|((repeat ((fail_if_success apply hK);clear hK K));apply hK;clear hK K))
 refine T.z0o (fun i:Nat=>⟨[(1,.ptr 0 0),(2,.bool false),(23,.p (.seq 1 (rowZ t))),(24,.int t.length),(25,.int i)],[(0,.boxP none 48 [.p (.seq 1 (rowZ s)),.int sz])],49,1⟩) (fun i=>i≤t.length∧ascL s=ascL (s.drop i)) (fun i=>t.length-i) 0 ⟨Nat.zero_le _,by simp⟩ (by refine zi.of' rfl ?_;simp only [wks,reduceIte,Nat.reduceEqDiff,ASt.okB,AV.okB,Nat.reduceLT,implies_true,Int.natCast_zero]) ?_
 rintro i ⟨hi,ha⟩ KL hKL
 by_cases hlt:i<t.length
 case neg =>
  have hd:decide ((i:Int)<(t.length:Int))=false:=by simpa using hlt
  rw [asc_end (k:=i) (by omega)] at ha
  have hls:s[s.length-1]? = some (z4o s):=by
   obtain ⟨x,hx⟩:=z01 (l:=s) (k:=s.length-1) (by omega)
   rw [z4o,hx];rfl
  have mls:=z09 hls
  have w1:IntKind.i64.wrap ((s.length:Int)-1)=((s.length-1:Nat):Int):=by rw [z04 (by omega) (by omega)];omega
  have c0:(0≤((s.length-1:Nat):Int))=True:=eq_true (by omega)
  repeat' (first|refine T.zk fun K hK=>?_|apply T.block|(refine T.reg (by kernel_rfl) fun K' hK'=>?_;simp only [bz];(with_reducible repeat' (first|(apply WL.fin;apply hK';clear hK' K')|(refine WL.step fun K2 hK2=>?_;simp only [simprocAttr,implies_true,amz,zb,tys,hd];repeat' (first|(apply hK2;clear hK2 K2)|apply And.intro|intro hb)))))|apply T.skip|apply T.exit|refine T.zf rfl ?_|refine T.ze rfl ?_|refine T.cond rfl (fun hc=>?_) (fun hc=>?_)|apply T.ret|simp only [za,z8,reduceIte,Nat.reduceEqDiff]|((repeat ((fail_if_success apply hK);clear hK K));apply hK;clear hK K))
  refine T.drw 11 (by kernel_rfl) (by kernel_rfl) fun K' hK'=>?_;simp only [List.map_cons,List.map_nil];(repeat' (first|(with_reducible refine WL.fin ?_;apply hK';clear hK' K')|(with_reducible refine WD.fin ?_)|((with_reducible first|refine WL.step fun K2 hK2=>?_|refine WD.step fun K2 hK2=>?_);simp only [simprocAttr,implies_true,amz,zb,tys,hsl,w1,c0,Int.toNat_natCast,mls];(repeat' with_reducible (first|(apply hK2;clear hK2 K2)|apply And.intro|intro hb)))));all_goals ((try simp only [za,z8,reduceIte,Nat.reduceEqDiff]);(try ((repeat ((fail_if_success apply hK);clear hK K));apply hK;clear hK K)))
  all_goals repeat' (first|refine T.zk fun K hK=>?_|apply T.block|(refine T.reg (by kernel_rfl) fun K' hK'=>?_;simp only [bz];(with_reducible repeat' (first|(apply WL.fin;apply hK';clear hK' K')|(refine WL.step fun K2 hK2=>?_;simp only [simprocAttr,implies_true,amz,zb,tys];repeat' (first|(apply hK2;clear hK2 K2)|apply And.intro|intro hb)))))|apply T.skip|apply T.exit|refine T.zf rfl ?_|refine T.ze rfl ?_|refine T.cond rfl (fun hc=>?_) (fun hc=>?_)|apply T.ret|simp only [za,z8,reduceIte,Nat.reduceEqDiff]|((repeat ((fail_if_success apply hK);clear hK K));apply hK;clear hK K))
  all_goals (refine qf.ret (.inr rfl) Tryd.results53 ?_;simp only [zR,zA,zB,simprocAttr,implies_true,amz,zb,tys,ha,Bool.true_and])
 have hd:decide ((i:Int)<(t.length:Int))=true:=by simpa using hlt
 have hi0:(0≤(i:Int))=True:=eq_true (by omega)
 obtain ⟨x,hx⟩:=z01 (l:=s) (k:=i) (by omega)
 obtain ⟨y,hy⟩:=z01 (l:=s) (k:=i+1) (by omega)
 have hyt:t[i]? = some y:=by rw [ht,List.getElem?_drop,Nat.add_comm,hy]
 have mx:=z09 hx
 have my:=z09 hyt
 rw [z7z hx hy] at ha
 by_cases hxy:x<y
 ·have f1:decide (y≤x)=false:=by simpa using hxy
  rw [decide_eq_true hxy,Bool.true_and] at ha
  repeat' (first|refine T.zk fun K hK=>?_|apply T.block|(refine T.reg (by kernel_rfl) fun K' hK'=>?_;simp only [bz];(with_reducible repeat' (first|(apply WL.fin;apply hK';clear hK' K')|(refine WL.step fun K2 hK2=>?_;simp only [simprocAttr,implies_true,amz,zb,tys,hd,hi0,Int.toNat_natCast,mx,my,f1];repeat' (first|(apply hK2;clear hK2 K2)|apply And.intro|intro hb)))))|apply T.skip|apply T.exit|refine T.zf rfl ?_|refine T.ze rfl ?_|refine T.cond rfl (fun hc=>?_) (fun hc=>?_)|apply T.ret|simp only [za,z8,reduceIte,Nat.reduceEqDiff]|((repeat ((fail_if_success apply hK);clear hK K));apply hK;clear hK K))
  refine hKL _ (i+1) (by refine zi.of' rfl ?_;simp only [wks,reduceIte,Nat.reduceEqDiff,ASt.okB,AV.okB,Nat.reduceLT,implies_true,zT (show i<1152921504606846976 by omega)]) ⟨hlt,ha⟩ (by omega)
 ·have f1:decide (y≤x)=true:=by simpa using hxy
  rw [decide_eq_false hxy,Bool.false_and] at ha
  repeat' (first|refine T.zk fun K hK=>?_|apply T.block|(refine T.reg (by kernel_rfl) fun K' hK'=>?_;simp only [bz];(with_reducible repeat' (first|(apply WL.fin;apply hK';clear hK' K')|(refine WL.step fun K2 hK2=>?_;simp only [simprocAttr,implies_true,amz,zb,tys,hd,hi0,Int.toNat_natCast,mx,my,f1];repeat' (first|(apply hK2;clear hK2 K2)|apply And.intro|intro hb)))))|apply T.skip|apply T.exit|refine T.zf rfl ?_|refine T.ze rfl ?_|refine T.cond rfl (fun hc=>?_) (fun hc=>?_)|apply T.ret|simp only [za,z8,reduceIte,Nat.reduceEqDiff]|((repeat ((fail_if_success apply hK);clear hK K));apply hK;clear hK K))
  all_goals (refine qf.ret (.inr rfl) Tryd.results53 ?_;simp only [zR,zA,zB,simprocAttr,implies_true,amz,zb,tys,ha,Bool.false_and])
theorem z4K (st:List Int) (sz:Int) (hl:st.length≤1000000):zy Tryd.prog 56 [lnA st sz] (.bool (z0l st sz)):=by
 have hsl:=z07 st
 simp only [lnA]
 cases st with
 | nil =>
  refine zy.of Tryd.func56 rfl 50 rfl (by decide) (by simp [AV.okB]) ?_
  repeat' (first|refine T.zk fun K hK=>?_|apply T.block|(refine T.reg (by kernel_rfl) fun K' hK'=>?_;simp only [bz];(with_reducible repeat' (first|(apply WL.fin;apply hK';clear hK' K')|(refine WL.step fun K2 hK2=>?_;simp only [simprocAttr,implies_true,amz,zb,tys,hsl,List.length_nil,Int.natCast_zero,beq_self_eq_true];repeat' (first|(apply hK2;clear hK2 K2)|apply And.intro|intro hb)))))|apply T.skip|apply T.exit|refine T.zf rfl ?_|refine T.ze rfl ?_|refine T.cond rfl (fun hc=>?_) (fun hc=>?_)|apply T.ret|simp only [za,z8,reduceIte,Nat.reduceEqDiff]|((repeat ((fail_if_success apply hK);clear hK K));apply hK;clear hK K))
  all_goals (refine qf.ret (.inr rfl) Tryd.results56 ?_;simp only [zR,zA,zB,simprocAttr,implies_true,amz,zb,tys,z0l,hd0,Bool.false_and])
 | cons a r =>
 have g0:(((a :: r).length:Int)==0)=false:=by simp;omega
 have r0:(rowZ (a :: r))[0]? = some [PV.val (.int .i64 a)]:=rfl
 by_cases ha:a=0
 case neg =>
  have g1:(a != 0)=true:=by simpa using ha
  have he:z0l (a :: r) sz=false:=by simp [z0l,hd0,ha]
  refine zy.of Tryd.func56 rfl 50 rfl (by decide) (by simp [AV.okB]) ?_
  repeat' (first|refine T.zk fun K hK=>?_|apply T.block|(refine T.reg (by kernel_rfl) fun K' hK'=>?_;simp only [bz];(with_reducible repeat' (first|(apply WL.fin;apply hK';clear hK' K')|(refine WL.step fun K2 hK2=>?_;simp only [simprocAttr,implies_true,amz,zb,tys,hsl,g0,r0,g1,Int.toNat_zero,Int.le_refl];repeat' (first|(apply hK2;clear hK2 K2)|apply And.intro|intro hb)))))|apply T.skip|apply T.exit|refine T.zf rfl ?_|refine T.ze rfl ?_|refine T.cond rfl (fun hc=>?_) (fun hc=>?_)|apply T.ret|simp only [za,z8,reduceIte,Nat.reduceEqDiff]|((repeat ((fail_if_success apply hK);clear hK K));apply hK;clear hK K))
  all_goals (refine qf.ret (.inr rfl) Tryd.results56 ?_;simp only [zR,zA,zB,simprocAttr,implies_true,amz,zb,tys,he])
 subst ha
 have g1:((0:Int) != 0)=false:=by simp
 obtain ⟨s,hs⟩ : ∃ s,s=(0 :: r:List Int):=⟨_,rfl⟩
 have he:z0l s sz=(ascL s&&(decide (z4o s≤sz)&&decide (sz≤1099511627776))):=by
  rw [hs]
  simp only [z0l,hd0,beq_self_eq_true,Bool.true_and,]
  cases decide (sz≤1099511627776) <;> simp
 have hpos : 0<s.length:=by rw [hs];simp
 rw [← hs] at hsl g0 r0 hl ⊢
 rw [he]
 refine zy.of Tryd.func56 rfl 50 rfl (by decide) (by simp [AV.okB]) ?_
 repeat' (first|refine T.zk fun K hK=>?_|apply T.block|(refine T.reg (by kernel_rfl) fun K' hK'=>?_;simp only [bz];(with_reducible repeat' (first|(apply WL.fin;apply hK';clear hK' K')|(refine WL.step fun K2 hK2=>?_;simp only [simprocAttr,implies_true,amz,zb,tys,hsl,g0,r0,g1,Int.toNat_zero,Int.le_refl];repeat' (first|(apply hK2;clear hK2 K2)|apply And.intro|intro hb)))))|apply T.skip|apply T.exit|refine T.zf rfl ?_|refine T.ze rfl ?_|refine T.cond rfl (fun hc=>?_) (fun hc=>?_)|apply T.ret|simp only [za,z8,reduceIte,Nat.reduceEqDiff]|((repeat ((fail_if_success apply hK);clear hK K));apply hK;clear hK K))
 refine T.z0o (fun i:Nat=>⟨[(1,.ptr 0 0),(2,.bool false),(3,.int (i+1:Nat))],[(0,.boxP none 48 [.p (.seq 1 (rowZ s)),.int sz])],50,1⟩) (fun i=>i+1≤s.length∧ascL s=ascL (s.drop i)) (fun i=>s.length-i) 0 ⟨by omega,by simp⟩ (by refine zi.of' rfl ?_;simp only [wks,reduceIte,Nat.reduceEqDiff,ASt.okB,AV.okB,Nat.reduceLT,implies_true,Nat.zero_add,Int.natCast_one]) ?_
 rintro i ⟨hi,ha⟩ KL hKL
 by_cases hlt:i+1<s.length
 case neg =>
  have hd:decide (((i+1:Nat):Int)<(s.length:Int))=false:=by simp;omega
  rw [asc_end (k:=i) (by omega)] at ha
  have hls:s[s.length-1]? = some (z4o s):=by
   obtain ⟨x,hx⟩:=z01 (l:=s) (k:=s.length-1) (by omega)
   rw [z4o,hx];rfl
  have mls:=z09 hls
  have w1:IntKind.i64.wrap ((s.length:Int)-1)=((s.length-1:Nat):Int):=by rw [z04 (by omega) (by omega)];omega
  have c0:(0≤((s.length-1:Nat):Int))=True:=eq_true (by omega)
  by_cases hz:z4o s≤sz
  ·have f1:decide (z4o s≤sz)=true:=by simpa using hz
   repeat' (first|refine T.zk fun K hK=>?_|apply T.block|(refine T.reg (by kernel_rfl) fun K' hK'=>?_;simp only [bz];(with_reducible repeat' (first|(apply WL.fin;apply hK';clear hK' K')|(refine WL.step fun K2 hK2=>?_;simp only [simprocAttr,implies_true,amz,zb,tys,hsl,hd];repeat' (first|(apply hK2;clear hK2 K2)|apply And.intro|intro hb)))))|apply T.skip|apply T.exit|refine T.zf rfl ?_|refine T.ze rfl ?_|refine T.cond rfl (fun hc=>?_) (fun hc=>?_)|apply T.ret|simp only [za,z8,reduceIte,Nat.reduceEqDiff]|((repeat ((fail_if_success apply hK);clear hK K));apply hK;clear hK K))
   refine T.drw 16 (by kernel_rfl) (by kernel_rfl) fun K' hK'=>?_;simp only [List.map_cons,List.map_nil];(repeat' (first|(with_reducible refine WL.fin ?_;apply hK';clear hK' K')|(with_reducible refine WD.fin ?_)|((with_reducible first|refine WL.step fun K2 hK2=>?_|refine WD.step fun K2 hK2=>?_);simp only [simprocAttr,implies_true,amz,zb,tys,hsl,w1,c0,Int.toNat_natCast,mls,f1];(repeat' with_reducible (first|(apply hK2;clear hK2 K2)|apply And.intro|intro hb)))));all_goals ((try simp only [za,z8,reduceIte,Nat.reduceEqDiff]);(try ((repeat ((fail_if_success apply hK);clear hK K));apply hK;clear hK K)))
   all_goals repeat' (first|refine T.zk fun K hK=>?_|apply T.block|(refine T.reg (by kernel_rfl) fun K' hK'=>?_;simp only [bz];(with_reducible repeat' (first|(apply WL.fin;apply hK';clear hK' K')|(refine WL.step fun K2 hK2=>?_;simp only [simprocAttr,implies_true,amz,zb,tys];repeat' (first|(apply hK2;clear hK2 K2)|apply And.intro|intro hb)))))|apply T.skip|apply T.exit|refine T.zf rfl ?_|refine T.ze rfl ?_|refine T.cond rfl (fun hc=>?_) (fun hc=>?_)|apply T.ret|simp only [za,z8,reduceIte,Nat.reduceEqDiff]|((repeat ((fail_if_success apply hK);clear hK K));apply hK;clear hK K))
   all_goals (refine qf.ret (.inr rfl) Tryd.results56 ?_;simp only [zR,zA,zB,simprocAttr,implies_true,amz,zb,tys,ha,f1,Bool.true_and])
  ·have f1:decide (z4o s≤sz)=false:=by simpa using hz
   repeat' (first|refine T.zk fun K hK=>?_|apply T.block|(refine T.reg (by kernel_rfl) fun K' hK'=>?_;simp only [bz];(with_reducible repeat' (first|(apply WL.fin;apply hK';clear hK' K')|(refine WL.step fun K2 hK2=>?_;simp only [simprocAttr,implies_true,amz,zb,tys,hsl,hd];repeat' (first|(apply hK2;clear hK2 K2)|apply And.intro|intro hb)))))|apply T.skip|apply T.exit|refine T.zf rfl ?_|refine T.ze rfl ?_|refine T.cond rfl (fun hc=>?_) (fun hc=>?_)|apply T.ret|simp only [za,z8,reduceIte,Nat.reduceEqDiff]|((repeat ((fail_if_success apply hK);clear hK K));apply hK;clear hK K))
   refine T.drw 16 (by kernel_rfl) (by kernel_rfl) fun K' hK'=>?_;simp only [List.map_cons,List.map_nil];(repeat' (first|(with_reducible refine WL.fin ?_;apply hK';clear hK' K')|(with_reducible refine WD.fin ?_)|((with_reducible first|refine WL.step fun K2 hK2=>?_|refine WD.step fun K2 hK2=>?_);simp only [simprocAttr,implies_true,amz,zb,tys,hsl,w1,c0,Int.toNat_natCast,mls,f1];(repeat' with_reducible (first|(apply hK2;clear hK2 K2)|apply And.intro|intro hb)))));all_goals ((try simp only [za,z8,reduceIte,Nat.reduceEqDiff]);(try ((repeat ((fail_if_success apply hK);clear hK K));apply hK;clear hK K)))
   all_goals repeat' (first|refine T.zk fun K hK=>?_|apply T.block|(refine T.reg (by kernel_rfl) fun K' hK'=>?_;simp only [bz];(with_reducible repeat' (first|(apply WL.fin;apply hK';clear hK' K')|(refine WL.step fun K2 hK2=>?_;simp only [simprocAttr,implies_true,amz,zb,tys];repeat' (first|(apply hK2;clear hK2 K2)|apply And.intro|intro hb)))))|apply T.skip|apply T.exit|refine T.zf rfl ?_|refine T.ze rfl ?_|refine T.cond rfl (fun hc=>?_) (fun hc=>?_)|apply T.ret|simp only [za,z8,reduceIte,Nat.reduceEqDiff]|((repeat ((fail_if_success apply hK);clear hK K));apply hK;clear hK K))
   all_goals (refine qf.ret (.inr rfl) Tryd.results56 ?_;simp only [zR,zA,zB,simprocAttr,implies_true,amz,zb,tys,ha,f1,Bool.true_and,Bool.false_and])
 have hd:decide (((i+1:Nat):Int)<(s.length:Int))=true:=by simp;omega
 have hi0:(0≤((i+1:Nat):Int))=True:=eq_true (by omega)
 have hi1:(0≤(i:Int))=True:=eq_true (by omega)
 have w1:IntKind.i64.wrap (((i+1:Nat):Int)-1)=(i:Int):=by rw [z04 (by omega) (by omega)];omega
 have w2:IntKind.i64.wrap (((i+1:Nat):Int)+1)=((i+1+1:Nat):Int):=zT (by omega)
 obtain ⟨x,hx⟩:=z01 (l:=s) (k:=i) (by omega)
 obtain ⟨y,hy⟩:=z01 (l:=s) (k:=i+1) (by omega)
 have mx:=z09 hx
 have my:=z09 hy
 rw [z7z hx hy] at ha
 by_cases hxy:x<y
 ·have f1:decide (y≤x)=false:=by simpa using hxy
  rw [decide_eq_true hxy,Bool.true_and] at ha
  repeat' (first|refine T.zk fun K hK=>?_|apply T.block|(refine T.reg (by kernel_rfl) fun K' hK'=>?_;simp only [bz];(with_reducible repeat' (first|(apply WL.fin;apply hK';clear hK' K')|(refine WL.step fun K2 hK2=>?_;simp only [simprocAttr,implies_true,amz,zb,tys,hsl,hd];repeat' (first|(apply hK2;clear hK2 K2)|apply And.intro|intro hb)))))|apply T.skip|apply T.exit|refine T.zf rfl ?_|refine T.ze rfl ?_|refine T.cond rfl (fun hc=>?_) (fun hc=>?_)|apply T.ret|simp only [za,z8,reduceIte,Nat.reduceEqDiff]|((repeat ((fail_if_success apply hK);clear hK K));apply hK;clear hK K))
  refine T.drw 12 (by kernel_rfl) (by kernel_rfl) fun K' hK'=>?_;simp only [List.map_cons,List.map_nil];(repeat' (first|(with_reducible refine WL.fin ?_;apply hK';clear hK' K')|(with_reducible refine WD.fin ?_)|((with_reducible first|refine WL.step fun K2 hK2=>?_|refine WD.step fun K2 hK2=>?_);simp only [simprocAttr,implies_true,amz,zb,tys,hi0,hi1,Int.toNat_natCast,mx,my,f1,w1];(repeat' with_reducible (first|(apply hK2;clear hK2 K2)|apply And.intro|intro hb)))));all_goals ((try simp only [za,z8,reduceIte,Nat.reduceEqDiff]);(try ((repeat ((fail_if_success apply hK);clear hK K));apply hK;clear hK K)))
  all_goals repeat' (first|refine T.zk fun K hK=>?_|apply T.block|(refine T.reg (by kernel_rfl) fun K' hK'=>?_;simp only [bz];(with_reducible repeat' (first|(apply WL.fin;apply hK';clear hK' K')|(refine WL.step fun K2 hK2=>?_;simp only [simprocAttr,implies_true,amz,zb,tys,w2];repeat' (first|(apply hK2;clear hK2 K2)|apply And.intro|intro hb)))))|apply T.skip|apply T.exit|refine T.zf rfl ?_|refine T.ze rfl ?_|refine T.cond rfl (fun hc=>?_) (fun hc=>?_)|apply T.ret|simp only [za,z8,reduceIte,Nat.reduceEqDiff]|((repeat ((fail_if_success apply hK);clear hK K));apply hK;clear hK K))
  refine hKL _ (i+1) (by refine zi.of' rfl ?_;simp only [wks,reduceIte,Nat.reduceEqDiff,ASt.okB,AV.okB,Nat.reduceLT,implies_true,]) ⟨hlt,ha⟩ (by omega)
 ·have f1:decide (y≤x)=true:=by simpa using hxy
  rw [decide_eq_false hxy,Bool.false_and] at ha
  repeat' (first|refine T.zk fun K hK=>?_|apply T.block|(refine T.reg (by kernel_rfl) fun K' hK'=>?_;simp only [bz];(with_reducible repeat' (first|(apply WL.fin;apply hK';clear hK' K')|(refine WL.step fun K2 hK2=>?_;simp only [simprocAttr,implies_true,amz,zb,tys,hsl,hd];repeat' (first|(apply hK2;clear hK2 K2)|apply And.intro|intro hb)))))|apply T.skip|apply T.exit|refine T.zf rfl ?_|refine T.ze rfl ?_|refine T.cond rfl (fun hc=>?_) (fun hc=>?_)|apply T.ret|simp only [za,z8,reduceIte,Nat.reduceEqDiff]|((repeat ((fail_if_success apply hK);clear hK K));apply hK;clear hK K))
  refine T.drw 12 (by kernel_rfl) (by kernel_rfl) fun K' hK'=>?_;simp only [List.map_cons,List.map_nil];(repeat' (first|(with_reducible refine WL.fin ?_;apply hK';clear hK' K')|(with_reducible refine WD.fin ?_)|((with_reducible first|refine WL.step fun K2 hK2=>?_|refine WD.step fun K2 hK2=>?_);simp only [simprocAttr,implies_true,amz,zb,tys,hi0,hi1,Int.toNat_natCast,mx,my,f1,w1];(repeat' with_reducible (first|(apply hK2;clear hK2 K2)|apply And.intro|intro hb)))));all_goals ((try simp only [za,z8,reduceIte,Nat.reduceEqDiff]);(try ((repeat ((fail_if_success apply hK);clear hK K));apply hK;clear hK K)))
  all_goals repeat' (first|refine T.zk fun K hK=>?_|apply T.block|(refine T.reg (by kernel_rfl) fun K' hK'=>?_;simp only [bz];(with_reducible repeat' (first|(apply WL.fin;apply hK';clear hK' K')|(refine WL.step fun K2 hK2=>?_;simp only [simprocAttr,implies_true,amz,zb,tys];repeat' (first|(apply hK2;clear hK2 K2)|apply And.intro|intro hb)))))|apply T.skip|apply T.exit|refine T.zf rfl ?_|refine T.ze rfl ?_|refine T.cond rfl (fun hc=>?_) (fun hc=>?_)|apply T.ret|simp only [za,z8,reduceIte,Nat.reduceEqDiff]|((repeat ((fail_if_success apply hK);clear hK K));apply hK;clear hK K))
  all_goals (refine qf.ret (.inr rfl) Tryd.results56 ?_;simp only [zR,zA,zB,simprocAttr,implies_true,amz,zb,tys,ha,Bool.false_and])
abbrev lnB (b:Nat) (st:List Int) (sz:Int):AO := .boxP (some b) 48 [.p (.seq 1 (rowZ st)),.int sz]
abbrev atB (b:Nat) (a:Int):AO := .boxP (some b) 3 [.int a]
theorem clo_ok (b0 b1:Nat) (st:List Int) (sz a:Int) (k:Nat) (x:Int) (hx:st[k]? = some x):MemC Tryd.prog 55 2 [(0,lnB b0 st sz),(1,atB b1 a)] [.int k,.ptr 0 0,.ptr 1 0] fun hp' r=>hp' = [(0,lnB b0 st sz),(1,atB b1 a)]∧r = .bool (decide (a<x)):=by
 have mx:=z09 hx
 have k0:(0≤(k:Int))=True:=eq_true (by omega)
 simp only [lnB,atB]
 refine MemC.of Tryd.func55 rfl 12 rfl (by decide) ?_;simp only [qK,frOf]
 repeat' (first|refine T.zk fun K hK=>?_|apply T.block|(refine T.reg (by kernel_rfl) fun K' hK'=>?_;simp only [bz];(with_reducible repeat' (first|(apply WL.fin;apply hK';clear hK' K')|(refine WL.step fun K2 hK2=>?_;simp only [simprocAttr,implies_true,amz,zb,tys];repeat' (first|(apply hK2;clear hK2 K2)|apply And.intro|intro hb)))))|apply T.skip|apply T.exit|refine T.zf rfl ?_|refine T.ze rfl ?_|refine T.cond rfl (fun hc=>?_) (fun hc=>?_)|apply T.ret|simp only [za,z8,reduceIte,Nat.reduceEqDiff]|((repeat ((fail_if_success apply hK);clear hK K));apply hK;clear hK K))
 refine T.drw 7 (by kernel_rfl) (by kernel_rfl) fun K' hK'=>?_;simp only [List.map_cons,List.map_nil];(repeat' (first|(with_reducible refine WL.fin ?_;apply hK';clear hK' K')|(with_reducible refine WD.fin ?_)|((with_reducible first|refine WL.step fun K2 hK2=>?_|refine WD.step fun K2 hK2=>?_);simp only [simprocAttr,implies_true,amz,zb,tys,k0,Int.toNat_natCast,mx];(repeat' with_reducible (first|(apply hK2;clear hK2 K2)|apply And.intro|intro hb)))));all_goals ((try simp only [za,z8,reduceIte,Nat.reduceEqDiff]);(try ((repeat ((fail_if_success apply hK);clear hK K));apply hK;clear hK K)))
 all_goals repeat' (first|refine T.zk fun K hK=>?_|apply T.block|(refine T.reg (by kernel_rfl) fun K' hK'=>?_;simp only [bz];(with_reducible repeat' (first|(apply WL.fin;apply hK';clear hK' K')|(refine WL.step fun K2 hK2=>?_;simp only [simprocAttr,implies_true,amz,zb,tys];repeat' (first|(apply hK2;clear hK2 K2)|apply And.intro|intro hb)))))|apply T.skip|apply T.exit|refine T.zf rfl ?_|refine T.ze rfl ?_|refine T.cond rfl (fun hc=>?_) (fun hc=>?_)|apply T.ret|simp only [za,z8,reduceIte,Nat.reduceEqDiff]|((repeat ((fail_if_success apply hK);clear hK K));apply hK;clear hK K))
 all_goals (refine FinM.ret (s':=⟨[(4,.bool (decide (a<x)))],[(0,lnB b0 st sz),(1,atB b1 a)],12,2⟩) (r := .bool (decide (a<x))) (.inr rfl) Tryd.results55 (by refine zi.of' rfl ?_;simp only [wks,reduceIte,Nat.reduceEqDiff,ASt.okB,AV.okB,Nat.reduceLT,implies_true,lnB,atB]) rfl ?_ ?_;(focus (simp only [zR,zA,zB,simprocAttr,implies_true,amz,zb,tys,];done)))
 all_goals exact ⟨rfl,rfl⟩
theorem search_ok (b0 b1:Nat) (st:List Int) (sz a:Int) (hs:ascL st=true) (hl:st.length≤1000000):MemC Tryd.prog 54 2 [(0,lnB b0 st sz),(1,atB b1 a)] [.int st.length,.fn (.func 55) [.ptr 0 0,.ptr 1 0]] fun hp' r=>hp' = [(0,lnB b0 st sz),(1,atB b1 a)]∧r = .int (cntN st a):=by
 have hcl:=clo_ok b0 b1 st sz a
 simp only [lnB,atB] at hcl ⊢
 refine MemC.of Tryd.func54 rfl 26 rfl (by decide) ?_;simp only [qK,frOf]
 repeat' (first|refine T.zk fun K hK=>?_|apply T.block|(refine T.reg (by kernel_rfl) fun K' hK'=>?_;simp only [bz];(with_reducible repeat' (first|(apply WL.fin;apply hK';clear hK' K')|(refine WL.step fun K2 hK2=>?_;simp only [simprocAttr,implies_true,amz,zb,tys];repeat' (first|(apply hK2;clear hK2 K2)|apply And.intro|intro hb)))))|apply T.skip|apply T.exit|refine T.zf rfl ?_|refine T.ze rfl ?_|refine T.cond rfl (fun hc=>?_) (fun hc=>?_)|apply T.ret|simp only [za,z8,reduceIte,Nat.reduceEqDiff]|((repeat ((fail_if_success apply hK);clear hK K));apply hK;clear hK K))
 refine T.z0o (fun p:Nat × Nat=>⟨[(1,.fn (.func 55) [.ptr 0 0,.ptr 1 0]),(5,.int p.1),(6,.int p.2)],[(0,lnB b0 st sz),(1,atB b1 a)],26,2⟩) (fun p=>p.1≤cntN st a∧cntN st a≤p.2∧p.2≤st.length) (fun p=>p.2-p.1) (0,st.length) ⟨Nat.zero_le _,z6T st a,Nat.le_refl _⟩ (by refine zi.of' rfl ?_;simp only [wks,reduceIte,Nat.reduceEqDiff,ASt.okB,AV.okB,Nat.reduceLT,implies_true,Int.natCast_zero,AV.qp,List.all_cons,List.all_nil,lnB,atB,AO.zH]) ?_
 rintro ⟨i,j⟩ ⟨h1,h2,h3⟩ KL hKL
 simp only at h1 h2 h3 hKL ⊢
 by_cases hij:i<j
 case neg =>
  have hd:decide ((i:Int)<(j:Int))=false:=by simpa using hij
  have he:i=cntN st a:=by omega
  repeat' (first|refine T.zk fun K hK=>?_|apply T.block|(refine T.reg (by kernel_rfl) fun K' hK'=>?_;simp only [bz];(with_reducible repeat' (first|(apply WL.fin;apply hK';clear hK' K')|(refine WL.step fun K2 hK2=>?_;simp only [simprocAttr,implies_true,amz,zb,tys,hd];repeat' (first|(apply hK2;clear hK2 K2)|apply And.intro|intro hb)))))|apply T.skip|apply T.exit|refine T.zf rfl ?_|refine T.ze rfl ?_|refine T.cond rfl (fun hc=>?_) (fun hc=>?_)|apply T.ret|simp only [za,z8,reduceIte,Nat.reduceEqDiff]|((repeat ((fail_if_success apply hK);clear hK K));apply hK;clear hK K))
  all_goals (refine FinM.ret (s':=⟨[(4,.int (i:Int))],[(0,lnB b0 st sz),(1,atB b1 a)],26,2⟩) (r := .int (i:Int)) (.inr rfl) Tryd.results54 (by refine zi.of' rfl ?_;simp only [wks,reduceIte,Nat.reduceEqDiff,ASt.okB,AV.okB,Nat.reduceLT,implies_true,lnB,atB]) rfl ?_ ?_;(focus (simp only [zR,zA,zB,simprocAttr,implies_true,amz,zb,tys,];done)))
  all_goals exact ⟨rfl,by rw [he]⟩
 have hd:decide ((i:Int)<(j:Int))=true:=by simpa using hij
 obtain ⟨h,hh⟩ : ∃ h,h=(i+j) / 2:=⟨_,rfl⟩
 have w1:IntKind.i64.wrap ((i:Int)+(j:Int))=((i+j:Nat):Int):=by rw [z04 (by omega) (by omega)];omega
 have w2:IntKind.u64.wrap (((i+j:Nat):Int))=((i+j:Nat):Int):=by
  have:((i+j:Nat):Int)<18446744073709551616:=by omega
  simp only [IntKind.wrap,IntKind.bits,IntKind.signed]
  simp
  omega
 have w3:(((i+j:Nat):Int)).fdiv 2=(h:Int):=by
  rw [Int.fdiv_eq_ediv_of_nonneg _ (by omega),hh]
  omega
 have w4:IntKind.i64.wrap (h:Int)=(h:Int):=z04 (by omega) (by omega)
 obtain ⟨x,hx⟩:=z01 (l:=st) (k:=h) (by omega)
 have hcl:=hcl h x hx
 have hit:=z3I (a:=a) hs hx
 simp only [lnB,atB]
 by_cases hax:a<x
 ·have f1:decide (a<x)=true:=by simpa using hax
  rw [f1] at hcl
  repeat' (first|refine T.zk fun K hK=>?_|apply T.block|(refine T.reg (by kernel_rfl) fun K' hK'=>?_;simp only [bz];(repeat' (first|(with_reducible refine WL.fin ?_;apply hK';clear hK' K')|((with_reducible refine WL.step fun K2 hK2=>?_);simp only [simprocAttr,implies_true,amz,zb,tys,hd,w1,w2,w3,w4,Option.isSome_some,if_true,Bool.not_true];(repeat' (first|with_reducible (first|(apply hK2;clear hK2 K2)|apply And.intro|intro hb)|((with_reducible refine qg 2 _ _ [0,1] (Ent.of Tryd.func55 (by kernel_rfl) rfl) (hcl) ?_ ?_ ?_);(focus ((refine ⟨Nat.le_of_ble_eq_true rfl,?_,?_⟩ <;> simp only [pz,reduceIte,Nat.reduceEqDiff,AV.okB,Nat.reduceLT,AV.qp,List.all_cons,List.all_nil]);done));(focus (simp [AV.okB];done));rintro hp' r ⟨rfl,rfl⟩;refine ⟨by simp [Kept,zm,AO.handle],?_⟩;simp only [cz,ASt.qh,AO.keep,Nat.reduceLeDiff,reduceIte,Nat.reduceEqDiff,AV.qp,List.all_cons,List.all_nil])))))))|apply T.skip|apply T.exit|refine T.zf rfl ?_|refine T.ze rfl ?_|refine T.cond rfl (fun hc=>?_) (fun hc=>?_)|apply T.ret|simp only [za,z8,reduceIte,Nat.reduceEqDiff]|((repeat ((fail_if_success apply hK);clear hK K));apply hK;clear hK K))
  refine hKL _ (i,h) (by refine zi.of' rfl ?_;simp only [wks,reduceIte,Nat.reduceEqDiff,ASt.okB,AV.okB,Nat.reduceLT,implies_true,AV.qp,List.all_cons,List.all_nil,lnB,atB,AO.zH]) ⟨h1,?_,?_⟩ ?_ <;> simp only [] <;> omega
 ·have f1:decide (a<x)=false:=by simpa using hax
  rw [f1] at hcl
  repeat' (first|refine T.zk fun K hK=>?_|apply T.block|(refine T.reg (by kernel_rfl) fun K' hK'=>?_;simp only [bz];(repeat' (first|(with_reducible refine WL.fin ?_;apply hK';clear hK' K')|((with_reducible refine WL.step fun K2 hK2=>?_);simp only [simprocAttr,implies_true,amz,zb,tys,hd,w1,w2,w3,w4,Option.isSome_some,if_true,Bool.not_false];(repeat' (first|with_reducible (first|(apply hK2;clear hK2 K2)|apply And.intro|intro hb)|((with_reducible refine qg 2 _ _ [0,1] (Ent.of Tryd.func55 (by kernel_rfl) rfl) (hcl) ?_ ?_ ?_);(focus ((refine ⟨Nat.le_of_ble_eq_true rfl,?_,?_⟩ <;> simp only [pz,reduceIte,Nat.reduceEqDiff,AV.okB,Nat.reduceLT,AV.qp,List.all_cons,List.all_nil]);done));(focus (simp [AV.okB];done));rintro hp' r ⟨rfl,rfl⟩;refine ⟨by simp [Kept,zm,AO.handle],?_⟩;simp only [cz,ASt.qh,AO.keep,Nat.reduceLeDiff,reduceIte,Nat.reduceEqDiff,AV.qp,List.all_cons,List.all_nil])))))))|apply T.skip|apply T.exit|refine T.zf rfl ?_|refine T.ze rfl ?_|refine T.cond rfl (fun hc=>?_) (fun hc=>?_)|apply T.ret|simp only [za,z8,reduceIte,Nat.reduceEqDiff]|((repeat ((fail_if_success apply hK);clear hK K));apply hK;clear hK K))
  refine hKL _ (h+1,j) (by refine zi.of' rfl ?_;simp only [wks,reduceIte,Nat.reduceEqDiff,ASt.okB,AV.okB,Nat.reduceLT,implies_true,zT (show h<1152921504606846976 by omega),AV.qp,List.all_cons,List.all_nil,lnB,atB,AO.zH]) ⟨?_,h2,h3⟩ ?_ <;> simp only [] <;> omega
theorem cnt_pos {st:List Int} {a:Int} {r:List Int} (h:st=0 :: r) (h0 : 0≤a) : 0<cntN st a:=by
 subst h
 simp [cntN,List.takeWhile_cons,h0]
theorem posN_ok {st:List Int} {sz a:Int} (h:z0l st sz=true) (h0 : 0≤a) (h1:a≤sz) : ∃ x,0<cntN st a∧cntN st a≤st.length∧st[cntN st a-1]? = some x ∧ 0≤x∧x≤a∧a≤1099511627776∧posN st sz a=((cntN st a:Int),a-x+1,0):=by
 obtain ⟨r,hst,h2,h3,h4⟩:=z2o.1 h
 have hp:=cnt_pos hst h0
 have hle:=z6T st a
 obtain ⟨x,hx⟩:=z01 (l:=st) (k:=cntN st a-1) (by omega)
 have hxa:=(z3I (a:=a) h3 hx).2 (by omega)
 have hx0 : 0≤x:=by
  by_cases e:cntN st a-1=0
  ·rw [e,hst] at hx;cases hx;omega
  ·have:=asc_lt h3 (cntN st a-2) 0 0 x (by rw [hst];rfl) (by rw [← hx];congr 1;omega)
   omega
 refine ⟨x,hp,hle,hx,hx0,hxa,by omega,?_⟩
 unfold posN
 rw [if_neg (by rw [h];simp),if_neg (by omega),hx]
 rfl
theorem z7n (st:List Int) (sz a:Int) (hl:st.length≤1000000):zy Tryd.prog 33 [lnA st sz,.int a] (poA (posN st sz a)):=by
 have hvd:=z5v st sz hl
 have hsl:=z07 st
 simp only [lnA,poA] at hvd ⊢
 cases hv:z0l st sz with
 | false =>
  have he:posN st sz a=(0,0,1):=by unfold posN;rw [if_pos hv]
  rw [hv] at hvd
  refine zy.of Tryd.func33 rfl 34 rfl (by decide) (by simp [AV.okB]) ?_
  repeat' (first|refine T.zk fun K hK=>?_|apply T.block|(refine T.reg (by kernel_rfl) fun K' hK'=>?_;simp only [bz];(repeat' (first|(with_reducible refine WL.fin ?_;apply hK';clear hK' K')|((with_reducible refine WL.step fun K2 hK2=>?_);simp only [simprocAttr,implies_true,amz,zb,tys];(repeat' (first|with_reducible (first|(apply hK2;clear hK2 K2)|apply And.intro|intro hb)|((with_reducible first|apply zh|apply zl);case h=>exact CallV.plain (Ent.of Tryd.func53 (by kernel_rfl) rfl) (hvd) (by simp [AV.okB]))))))))|apply T.skip|apply T.exit|refine T.zf rfl ?_|refine T.ze rfl ?_|refine T.cond rfl (fun hc=>?_) (fun hc=>?_)|apply T.ret|simp only [za,z8,reduceIte,Nat.reduceEqDiff]|((repeat ((fail_if_success apply hK);clear hK K));apply hK;clear hK K))
  all_goals (refine qf.ret (.inr rfl) Tryd.results33 ?_;simp only [zR,zA,zB,simprocAttr,implies_true,amz,zb,tys,he])
 | true =>
 rw [hv] at hvd
 by_cases h0:a<0
 ·have f0:decide (a<0)=true:=by simpa using h0
  have he:posN st sz a=(0,0,2):=by unfold posN;rw [if_neg (by rw [hv];simp),if_pos (.inl h0)]
  refine zy.of Tryd.func33 rfl 34 rfl (by decide) (by simp [AV.okB]) ?_
  repeat' (first|refine T.zk fun K hK=>?_|apply T.block|(refine T.reg (by kernel_rfl) fun K' hK'=>?_;simp only [bz];(repeat' (first|(with_reducible refine WL.fin ?_;apply hK';clear hK' K')|((with_reducible refine WL.step fun K2 hK2=>?_);simp only [simprocAttr,implies_true,amz,zb,tys,f0];(repeat' (first|with_reducible (first|(apply hK2;clear hK2 K2)|apply And.intro|intro hb)|((with_reducible first|apply zh|apply zl);case h=>exact CallV.plain (Ent.of Tryd.func53 (by kernel_rfl) rfl) (hvd) (by simp [AV.okB]))))))))|apply T.skip|apply T.exit|refine T.zf rfl ?_|refine T.ze rfl ?_|refine T.cond rfl (fun hc=>?_) (fun hc=>?_)|apply T.ret|simp only [za,z8,reduceIte,Nat.reduceEqDiff]|((repeat ((fail_if_success apply hK);clear hK K));apply hK;clear hK K))
  all_goals (refine qf.ret (.inr rfl) Tryd.results33 ?_;simp only [zR,zA,zB,simprocAttr,implies_true,amz,zb,tys,he])
 have f0:decide (a<0)=false:=by simpa using h0
 by_cases h1:sz<a
 ·have f1:decide (sz<a)=true:=by simpa using h1
  have he:posN st sz a=(0,0,2):=by unfold posN;rw [if_neg (by rw [hv];simp),if_pos (.inr h1)]
  refine zy.of Tryd.func33 rfl 34 rfl (by decide) (by simp [AV.okB]) ?_
  repeat' (first|refine T.zk fun K hK=>?_|apply T.block|(refine T.reg (by kernel_rfl) fun K' hK'=>?_;simp only [bz];(repeat' (first|(with_reducible refine WL.fin ?_;apply hK';clear hK' K')|((with_reducible refine WL.step fun K2 hK2=>?_);simp only [simprocAttr,implies_true,amz,zb,tys,f0,f1];(repeat' (first|with_reducible (first|(apply hK2;clear hK2 K2)|apply And.intro|intro hb)|((with_reducible first|apply zh|apply zl);case h=>exact CallV.plain (Ent.of Tryd.func53 (by kernel_rfl) rfl) (hvd) (by simp [AV.okB]))))))))|apply T.skip|apply T.exit|refine T.zf rfl ?_|refine T.ze rfl ?_|refine T.cond rfl (fun hc=>?_) (fun hc=>?_)|apply T.ret|simp only [za,z8,reduceIte,Nat.reduceEqDiff]|((repeat ((fail_if_success apply hK);clear hK K));apply hK;clear hK K))
  all_goals (refine qf.ret (.inr rfl) Tryd.results33 ?_;simp only [zR,zA,zB,simprocAttr,implies_true,amz,zb,tys,he])
 have f1:decide (sz<a)=false:=by simpa using h1
 obtain ⟨x,c0,c1,hx,hx0,hxa,ha,he⟩:=posN_ok (a:=a) hv (by omega) (by omega)
 have hs:ascL st=true:=by obtain ⟨_,_,_,h,_⟩:=z2o.1 hv;exact h
 have mx:=z09 hx
 have hse:=fun b0 b1=>search_ok b0 b1 st sz a hs hl
 have w1:IntKind.i64.wrap ((cntN st a:Int)-1)=((cntN st a-1:Nat):Int):=by rw [z04 (by omega) (by omega)];omega
 have w2:IntKind.i64.wrap (a-x)=a-x:=z04 (by omega) (by omega)
 have w3:IntKind.i64.wrap (a-x+1)=a-x+1:=z04 (by omega) (by omega)
 have k0:(0≤((cntN st a-1:Nat):Int))=True:=eq_true (by omega)
 simp only [lnB,atB] at hse
 refine zy.of Tryd.func33 rfl 34 rfl (by decide) (by simp [AV.okB]) ?_
 repeat' (first|refine T.zk fun K hK=>?_|apply T.block|apply T.skip|apply T.exit|refine T.zf rfl ?_|refine T.ze rfl ?_|refine T.cond rfl (fun hc=>?_) (fun hc=>?_)|apply T.ret|simp only [za,z8,reduceIte,Nat.reduceEqDiff]|((repeat ((fail_if_success apply hK);clear hK K));apply hK;clear hK K))
 (refine T.reg (by kernel_rfl) fun K' hK'=>?_;simp only [bz];(with_reducible repeat' (first|(apply WL.fin;apply hK';clear hK' K')|(refine WL.step fun K2 hK2=>?_;simp only [simprocAttr,implies_true,amz,zb,tys];repeat' (first|(apply hK2;clear hK2 K2)|apply And.intro|intro hb))));all_goals ((try simp only [za,z8,reduceIte,Nat.reduceEqDiff]);(try ((repeat ((fail_if_success apply hK);clear hK K));apply hK;clear hK K))))
 refine T.pin 0 _ rfl fun b0=>?_;simp only [zU,AO.pin,List.map_cons,List.map_nil,reduceIte,Nat.reduceEqDiff]
 refine T.pin 1 _ rfl fun b1=>?_;simp only [zU,AO.pin,List.map_cons,List.map_nil,reduceIte,Nat.reduceEqDiff]
 repeat' (first|refine T.zk fun K hK=>?_|apply T.block|apply T.skip|apply T.exit|refine T.zf rfl ?_|refine T.ze rfl ?_|refine T.cond rfl (fun hc=>?_) (fun hc=>?_)|apply T.ret|simp only [za,z8,reduceIte,Nat.reduceEqDiff]|((repeat ((fail_if_success apply hK);clear hK K));apply hK;clear hK K))
 (refine T.reg (by kernel_rfl) fun K' hK'=>?_;simp only [bz];(repeat' (first|(with_reducible refine WL.fin ?_;apply hK';clear hK' K')|((with_reducible refine WL.step fun K2 hK2=>?_);simp only [simprocAttr,implies_true,amz,zb,tys];(repeat' (first|with_reducible (first|(apply hK2;clear hK2 K2)|apply And.intro|intro hb)|((with_reducible first|apply zh|apply zl);case h=>exact CallV.plain (Ent.of Tryd.func53 (by kernel_rfl) rfl) (hvd) (by simp [AV.okB])))))));all_goals ((try simp only [za,z8,reduceIte,Nat.reduceEqDiff]);(try ((repeat ((fail_if_success apply hK);clear hK K));apply hK;clear hK K))))
 repeat' (first|refine T.zk fun K hK=>?_|apply T.block|apply T.skip|apply T.exit|refine T.zf rfl ?_|refine T.ze rfl ?_|refine T.cond rfl (fun hc=>?_) (fun hc=>?_)|apply T.ret|simp only [za,z8,reduceIte,Nat.reduceEqDiff]|((repeat ((fail_if_success apply hK);clear hK K));apply hK;clear hK K))
 (refine T.reg (by kernel_rfl) fun K' hK'=>?_;simp only [bz];(with_reducible repeat' (first|(apply WL.fin;apply hK';clear hK' K')|(refine WL.step fun K2 hK2=>?_;simp only [simprocAttr,implies_true,amz,zb,tys,f0,f1];repeat' (first|(apply hK2;clear hK2 K2)|apply And.intro|intro hb))));all_goals ((try simp only [za,z8,reduceIte,Nat.reduceEqDiff]);(try ((repeat ((fail_if_success apply hK);clear hK K));apply hK;clear hK K))))
 repeat' (first|refine T.zk fun K hK=>?_|apply T.block|apply T.skip|apply T.exit|refine T.zf rfl ?_|refine T.ze rfl ?_|refine T.cond rfl (fun hc=>?_) (fun hc=>?_)|apply T.ret|simp only [za,z8,reduceIte,Nat.reduceEqDiff]|((repeat ((fail_if_success apply hK);clear hK K));apply hK;clear hK K))
 have hse:=hse b0 b1
 refine T.weak (zi.hpe _ [(0,.boxP (some b0) 48 [.p (.seq 1 (rowZ st)),.int sz]),(1,.boxP (some b1) 3 [.int a])] (fun t=>by
  simp only [zm,qy]
  by_cases e0:t=0
  ·subst e0;rfl
  ·by_cases e1:t=1
   ·subst e1;rfl
   ·simp only [e0,e1,if_false])) ?_
 repeat' (first|refine T.zk fun K hK=>?_|apply T.block|(refine T.reg (by kernel_rfl) fun K' hK'=>?_;simp only [bz];(repeat' (first|(with_reducible refine WL.fin ?_;apply hK';clear hK' K')|((with_reducible refine WL.step fun K2 hK2=>?_);simp only [simprocAttr,implies_true,amz,zb,tys,hsl];(repeat' (first|with_reducible (first|(apply hK2;clear hK2 K2)|apply And.intro|intro hb)|((with_reducible refine qg 2 _ _ [0,1] (Ent.of Tryd.func54 (by kernel_rfl) rfl) (hse) ?_ ?_ ?_);(focus ((refine ⟨Nat.le_of_ble_eq_true rfl,?_,?_⟩ <;> simp only [pz,reduceIte,Nat.reduceEqDiff,AV.okB,Nat.reduceLT,AV.qp,List.all_cons,List.all_nil]);done));(focus (simp [AV.okB];done));rintro hp' r ⟨rfl,rfl⟩;refine ⟨by simp [Kept,zm,AO.handle],?_⟩;simp only [cz,ASt.qh,AO.keep,Nat.reduceLeDiff,reduceIte,Nat.reduceEqDiff,AV.qp,List.all_cons,List.all_nil])))))))|apply T.skip|apply T.exit|refine T.zf rfl ?_|refine T.ze rfl ?_|refine T.cond rfl (fun hc=>?_) (fun hc=>?_)|apply T.ret|simp only [za,z8,reduceIte,Nat.reduceEqDiff]|((repeat ((fail_if_success apply hK);clear hK K));apply hK;clear hK K))
 refine T.drw 11 (by kernel_rfl) (by kernel_rfl) fun K' hK'=>?_;simp only [List.map_cons,List.map_nil];(repeat' (first|(with_reducible refine WL.fin ?_;apply hK';clear hK' K')|(with_reducible refine WD.fin ?_)|((with_reducible first|refine WL.step fun K2 hK2=>?_|refine WD.step fun K2 hK2=>?_);simp only [simprocAttr,implies_true,amz,zb,tys,hsl,w1,w2,w3,k0,Int.toNat_natCast,mx];(repeat' with_reducible (first|(apply hK2;clear hK2 K2)|apply And.intro|intro hb)))));all_goals ((try simp only [za,z8,reduceIte,Nat.reduceEqDiff]);(try ((repeat ((fail_if_success apply hK);clear hK K));apply hK;clear hK K)))
 all_goals repeat' (first|refine T.zk fun K hK=>?_|apply T.block|(refine T.reg (by kernel_rfl) fun K' hK'=>?_;simp only [bz];(with_reducible repeat' (first|(apply WL.fin;apply hK';clear hK' K')|(refine WL.step fun K2 hK2=>?_;simp only [simprocAttr,implies_true,amz,zb,tys];repeat' (first|(apply hK2;clear hK2 K2)|apply And.intro|intro hb)))))|apply T.skip|apply T.exit|refine T.zf rfl ?_|refine T.ze rfl ?_|refine T.cond rfl (fun hc=>?_) (fun hc=>?_)|apply T.ret|simp only [za,z8,reduceIte,Nat.reduceEqDiff]|((repeat ((fail_if_success apply hK);clear hK K));apply hK;clear hK K))
 all_goals (refine qf.ret (.inr rfl) Tryd.results33 ?_;simp only [zR,zA,zB,simprocAttr,implies_true,amz,zb,tys,he])
theorem z6D (st:List Int) (sz a:Int) (hl:st.length≤1000000):zy Tryd.prog 34 [lnA st sz,.int a] (poA (posN st sz a)):=by
 have hvd:=z4K st sz hl
 have hsl:=z07 st
 simp only [lnA,poA] at hvd ⊢
 cases hv:z0l st sz with
 | false =>
  have he:posN st sz a=(0,0,1):=by unfold posN;rw [if_pos hv]
  rw [hv] at hvd
  refine zy.of Tryd.func34 rfl 45 rfl (by decide) (by simp [AV.okB]) ?_
  repeat' (first|refine T.zk fun K hK=>?_|apply T.block|(refine T.reg (by kernel_rfl) fun K' hK'=>?_;simp only [bz];(repeat' (first|(with_reducible refine WL.fin ?_;apply hK';clear hK' K')|((with_reducible refine WL.step fun K2 hK2=>?_);simp only [simprocAttr,implies_true,amz,zb,tys];(repeat' (first|with_reducible (first|(apply hK2;clear hK2 K2)|apply And.intro|intro hb)|((with_reducible first|apply zh|apply zl);case h=>exact CallV.plain (Ent.of Tryd.func56 (by kernel_rfl) rfl) (hvd) (by simp [AV.okB]))))))))|apply T.skip|apply T.exit|refine T.zf rfl ?_|refine T.ze rfl ?_|refine T.cond rfl (fun hc=>?_) (fun hc=>?_)|apply T.ret|simp only [za,z8,reduceIte,Nat.reduceEqDiff]|((repeat ((fail_if_success apply hK);clear hK K));apply hK;clear hK K))
  all_goals (refine qf.ret (.inr rfl) Tryd.results34 ?_;simp only [zR,zA,zB,simprocAttr,implies_true,amz,zb,tys,he])
 | true =>
 rw [hv] at hvd
 by_cases h0:a<0
 ·have f0:decide (a<0)=true:=by simpa using h0
  have he:posN st sz a=(0,0,2):=by unfold posN;rw [if_neg (by rw [hv];simp),if_pos (.inl h0)]
  refine zy.of Tryd.func34 rfl 45 rfl (by decide) (by simp [AV.okB]) ?_
  repeat' (first|refine T.zk fun K hK=>?_|apply T.block|(refine T.reg (by kernel_rfl) fun K' hK'=>?_;simp only [bz];(repeat' (first|(with_reducible refine WL.fin ?_;apply hK';clear hK' K')|((with_reducible refine WL.step fun K2 hK2=>?_);simp only [simprocAttr,implies_true,amz,zb,tys,f0];(repeat' (first|with_reducible (first|(apply hK2;clear hK2 K2)|apply And.intro|intro hb)|((with_reducible first|apply zh|apply zl);case h=>exact CallV.plain (Ent.of Tryd.func56 (by kernel_rfl) rfl) (hvd) (by simp [AV.okB]))))))))|apply T.skip|apply T.exit|refine T.zf rfl ?_|refine T.ze rfl ?_|refine T.cond rfl (fun hc=>?_) (fun hc=>?_)|apply T.ret|simp only [za,z8,reduceIte,Nat.reduceEqDiff]|((repeat ((fail_if_success apply hK);clear hK K));apply hK;clear hK K))
  all_goals (refine qf.ret (.inr rfl) Tryd.results34 ?_;simp only [zR,zA,zB,simprocAttr,implies_true,amz,zb,tys,he])
 have f0:decide (a<0)=false:=by simpa using h0
 by_cases h1:sz<a
 ·have f1:decide (sz<a)=true:=by simpa using h1
  have he:posN st sz a=(0,0,2):=by unfold posN;rw [if_neg (by rw [hv];simp),if_pos (.inr h1)]
  refine zy.of Tryd.func34 rfl 45 rfl (by decide) (by simp [AV.okB]) ?_
  repeat' (first|refine T.zk fun K hK=>?_|apply T.block|(refine T.reg (by kernel_rfl) fun K' hK'=>?_;simp only [bz];(repeat' (first|(with_reducible refine WL.fin ?_;apply hK';clear hK' K')|((with_reducible refine WL.step fun K2 hK2=>?_);simp only [simprocAttr,implies_true,amz,zb,tys,f0,f1];(repeat' (first|with_reducible (first|(apply hK2;clear hK2 K2)|apply And.intro|intro hb)|((with_reducible first|apply zh|apply zl);case h=>exact CallV.plain (Ent.of Tryd.func56 (by kernel_rfl) rfl) (hvd) (by simp [AV.okB]))))))))|apply T.skip|apply T.exit|refine T.zf rfl ?_|refine T.ze rfl ?_|refine T.cond rfl (fun hc=>?_) (fun hc=>?_)|apply T.ret|simp only [za,z8,reduceIte,Nat.reduceEqDiff]|((repeat ((fail_if_success apply hK);clear hK K));apply hK;clear hK K))
  all_goals (refine qf.ret (.inr rfl) Tryd.results34 ?_;simp only [zR,zA,zB,simprocAttr,implies_true,amz,zb,tys,he])
 have f1:decide (sz<a)=false:=by simpa using h1
 obtain ⟨x,c0,c1,hx,hx0,hxa,ha,he⟩:=posN_ok (a:=a) hv (by omega) (by omega)
 have hs:ascL st=true:=by obtain ⟨_,_,_,h,_⟩:=z2o.1 hv;exact h
 have mx:=z09 hx
 have w1:IntKind.i64.wrap (((cntN st a-1:Nat):Int)+1)=(cntN st a:Int):=by rw [z04 (by omega) (by omega)];omega
 have w2:IntKind.i64.wrap (a-x)=a-x:=z04 (by omega) (by omega)
 have w3:IntKind.i64.wrap (a-x+1)=a-x+1:=z04 (by omega) (by omega)
 have k0:(0≤((cntN st a-1:Nat):Int))=True:=eq_true (by omega)
 refine zy.of Tryd.func34 rfl 45 rfl (by decide) (by simp [AV.okB]) ?_
 repeat' (first|refine T.zk fun K hK=>?_|apply T.block|(refine T.reg (by kernel_rfl) fun K' hK'=>?_;simp only [bz];(repeat' (first|(with_reducible refine WL.fin ?_;apply hK';clear hK' K')|((with_reducible refine WL.step fun K2 hK2=>?_);simp only [simprocAttr,implies_true,amz,zb,tys,f0,f1];(repeat' (first|with_reducible (first|(apply hK2;clear hK2 K2)|apply And.intro|intro hb)|((with_reducible first|apply zh|apply zl);case h=>exact CallV.plain (Ent.of Tryd.func56 (by kernel_rfl) rfl) (hvd) (by simp [AV.okB]))))))))|apply T.skip|apply T.exit|refine T.zf rfl ?_|refine T.ze rfl ?_|refine T.cond rfl (fun hc=>?_) (fun hc=>?_)|apply T.ret|simp only [za,z8,reduceIte,Nat.reduceEqDiff]|((repeat ((fail_if_success apply hK);clear hK K));apply hK;clear hK K))
 refine T.z0o (fun i:Nat=>⟨[(1,.int a),(2,.ptr 0 0),(7,.int ((min i (cntN st a)-1:Nat):Int)),(8,.int i)],[(0,.boxP none 48 [.p (.seq 1 (rowZ st)),.int sz])],45,1⟩) (fun i=>i≤st.length) (fun i=>st.length-i) 0 (Nat.zero_le _) (by refine zi.of' rfl ?_;simp only [wks,reduceIte,Nat.reduceEqDiff,ASt.okB,AV.okB,Nat.reduceLT,implies_true,Int.natCast_zero,Nat.zero_min,Nat.zero_sub]) ?_
 intro i hi KL hKL
 by_cases hlt:i<st.length
 case neg =>
  have hd:decide ((i:Int)<(st.length:Int))=false:=by simpa using hlt
  have hm:min i (cntN st a)=cntN st a:=by omega
  rw [hm]
  repeat' (first|refine T.zk fun K hK=>?_|apply T.block|(refine T.reg (by kernel_rfl) fun K' hK'=>?_;simp only [bz];(with_reducible repeat' (first|(apply WL.fin;apply hK';clear hK' K')|(refine WL.step fun K2 hK2=>?_;simp only [simprocAttr,implies_true,amz,zb,tys,hsl,hd];repeat' (first|(apply hK2;clear hK2 K2)|apply And.intro|intro hb)))))|apply T.skip|apply T.exit|refine T.zf rfl ?_|refine T.ze rfl ?_|refine T.cond rfl (fun hc=>?_) (fun hc=>?_)|apply T.ret|simp only [za,z8,reduceIte,Nat.reduceEqDiff]|((repeat ((fail_if_success apply hK);clear hK K));apply hK;clear hK K))
  refine T.drw 11 (by kernel_rfl) (by kernel_rfl) fun K' hK'=>?_;simp only [List.map_cons,List.map_nil];(repeat' (first|(with_reducible refine WL.fin ?_;apply hK';clear hK' K')|(with_reducible refine WD.fin ?_)|((with_reducible first|refine WL.step fun K2 hK2=>?_|refine WD.step fun K2 hK2=>?_);simp only [simprocAttr,implies_true,amz,zb,tys,hsl,w1,w2,w3,k0,Int.toNat_natCast,mx];(repeat' with_reducible (first|(apply hK2;clear hK2 K2)|apply And.intro|intro hb)))));all_goals ((try simp only [za,z8,reduceIte,Nat.reduceEqDiff]);(try ((repeat ((fail_if_success apply hK);clear hK K));apply hK;clear hK K)))
  all_goals repeat' (first|refine T.zk fun K hK=>?_|apply T.block|(refine T.reg (by kernel_rfl) fun K' hK'=>?_;simp only [bz];(with_reducible repeat' (first|(apply WL.fin;apply hK';clear hK' K')|(refine WL.step fun K2 hK2=>?_;simp only [simprocAttr,implies_true,amz,zb,tys];repeat' (first|(apply hK2;clear hK2 K2)|apply And.intro|intro hb)))))|apply T.skip|apply T.exit|refine T.zf rfl ?_|refine T.ze rfl ?_|refine T.cond rfl (fun hc=>?_) (fun hc=>?_)|apply T.ret|simp only [za,z8,reduceIte,Nat.reduceEqDiff]|((repeat ((fail_if_success apply hK);clear hK K));apply hK;clear hK K))
  all_goals (refine qf.ret (.inr rfl) Tryd.results34 ?_;simp only [zR,zA,zB,simprocAttr,implies_true,amz,zb,tys,he])
 have hd:decide ((i:Int)<(st.length:Int))=true:=by simpa using hlt
 have i0:(0≤(i:Int))=True:=eq_true (by omega)
 obtain ⟨y,hy⟩:=z01 hlt
 have my:=z09 hy
 have hit:=z3I (a:=a) hs hy
 by_cases hya:y≤a
 ·have f2:decide (y≤a)=true:=by simpa using hya
  have hm:min (i+1) (cntN st a)-1=i:=by have:=hit.1 hya;omega
  repeat' (first|refine T.zk fun K hK=>?_|apply T.block|(refine T.reg (by kernel_rfl) fun K' hK'=>?_;simp only [bz];(with_reducible repeat' (first|(apply WL.fin;apply hK';clear hK' K')|(refine WL.step fun K2 hK2=>?_;simp only [simprocAttr,implies_true,amz,zb,tys,hsl,hd,i0,Int.toNat_natCast,my,f2];repeat' (first|(apply hK2;clear hK2 K2)|apply And.intro|intro hb)))))|apply T.skip|apply T.exit|refine T.zf rfl ?_|refine T.ze rfl ?_|refine T.cond rfl (fun hc=>?_) (fun hc=>?_)|apply T.ret|simp only [za,z8,reduceIte,Nat.reduceEqDiff]|((repeat ((fail_if_success apply hK);clear hK K));apply hK;clear hK K))
  refine hKL _ (i+1) (by refine zi.of' rfl ?_;simp only [wks,reduceIte,Nat.reduceEqDiff,ASt.okB,AV.okB,Nat.reduceLT,implies_true,zT (show i<1152921504606846976 by omega),hm]) hlt (by omega)
 ·have f2:decide (y≤a)=false:=by simpa using hya
  have hm:min (i+1) (cntN st a)-1=min i (cntN st a)-1:=by have : ¬ i<cntN st a:=fun h=>hya (hit.2 h);omega
  repeat' (first|refine T.zk fun K hK=>?_|apply T.block|(refine T.reg (by kernel_rfl) fun K' hK'=>?_;simp only [bz];(with_reducible repeat' (first|(apply WL.fin;apply hK';clear hK' K')|(refine WL.step fun K2 hK2=>?_;simp only [simprocAttr,implies_true,amz,zb,tys,hsl,hd,i0,Int.toNat_natCast,my,f2];repeat' (first|(apply hK2;clear hK2 K2)|apply And.intro|intro hb)))))|apply T.skip|apply T.exit|refine T.zf rfl ?_|refine T.ze rfl ?_|refine T.cond rfl (fun hc=>?_) (fun hc=>?_)|apply T.ret|simp only [za,z8,reduceIte,Nat.reduceEqDiff]|((repeat ((fail_if_success apply hK);clear hK K));apply hK;clear hK K))
  refine hKL _ (i+1) (by refine zi.of' rfl ?_;simp only [wks,reduceIte,Nat.reduceEqDiff,ASt.okB,AV.okB,Nat.reduceLT,implies_true,zT (show i<1152921504606846976 by omega),hm]) hlt (by omega)
end Go.Proofs.YtbkkginjfnjffaaDoor
