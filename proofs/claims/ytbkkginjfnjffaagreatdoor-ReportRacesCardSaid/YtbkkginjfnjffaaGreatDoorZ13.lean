/- Texts Pq, Pr, St, Su, Sw, Sv, Sx, Sy, Sz, Sk, Sl, Py, Pz. -/
import Derived.Laws.Strings
import Derived.Test.YtbkkginjfnjffaaGreatDoorZ12
set_option maxHeartbeats 32000000
set_option maxRecDepth 100000
set_option linter.unusedSimpArgs false
set_option linter.unusedVariables false
namespace Go.Proofs.YtbkkginjfnjffaaGreatDoor
open Go.RowKit Go.Sort
def bvC (b:Bool):List PV := [.val (.bool b)]
def rowR (n:Nat) (g:Nat→Bool):List (List PV):=(List.range n).map fun j=>bvC (g j)
def matR (n:Nat) (f:Nat→Nat→Bool):List (List (List PV)):=(List.range n).map fun i=>rowR n (f i)
theorem z2w (n:Nat) (g:Nat→Bool):(rowR n g).length=n:=by simp [rowR]
theorem z3o (n:Nat) (f:Nat→Nat→Bool):(matR n f).length=n:=by simp [matR]
theorem z2Q {n j:Nat} (g:Nat→Bool) (h:j<n):(rowR n g)[j]? = some (bvC (g j)):=by
 unfold rowR;rw [List.getElem?_map,List.getElem?_range h];rfl
theorem z3z {n i:Nat} (f:Nat→Nat→Bool) (h:i<n):(matR n f)[i]? = some (rowR n (f i)):=by
 unfold matR;rw [List.getElem?_map,List.getElem?_range h];rfl
def updM (f:Nat→Nat→Bool) (i j:Nat) (b:Bool):Nat→Nat→Bool:=fun x y=>if x=i∧y=j then b else f x y
theorem z7X {n i j:Nat} (f:Nat→Nat→Bool) (b:Bool) (hi:i<n) (hj:j<n):(matR n f).set i ((rowR n (f i)).set j (bvC b))=matR n (updM f i j b):=by
 apply List.ext_getElem?
 intro k
 rw [List.getElem?_set]
 by_cases hk:k<n
 ·rw [z3z _ hk,z3z _ hk]
  by_cases e:i=k
  ·subst e
   rw [if_pos rfl,if_pos (by rw [z3o];exact hi)]
   congr 1
   apply List.ext_getElem?
   intro q
   rw [List.getElem?_set]
   by_cases hq:q<n
   ·rw [z2Q _ hq,z2Q _ hq]
    by_cases e2:j=q
    ·subst e2;rw [if_pos rfl,if_pos (by rw [z2w];exact hj)];simp [updM]
    ·rw [if_neg e2];simp only [updM,true_and];rw [if_neg (fun h=>e2 h.symm)]
   ·have e2 : ¬ j=q:=by omega
    rw [if_neg e2,List.getElem?_eq_none (by rw [z2w];omega),List.getElem?_eq_none (by rw [z2w];omega)]
  ·rw [if_neg e]
   congr 1
   unfold rowR
   refine List.map_congr_left fun q _=>?_
   simp only [updM]
   rw [if_neg (fun h=>e h.1.symm)]
 ·have e2 : ¬ i=k:=by omega
  rw [if_neg e2,List.getElem?_eq_none (by rw [z3o];omega),List.getElem?_eq_none (by rw [z3o];omega)]
theorem z8K {n:Nat} {f g:Nat→Nat→Bool} (h : ∀ i j,i<n→j<n→f i j=g i j):matR n f=matR n g:=by
 unfold matR rowR
 refine List.map_congr_left fun i hi=>List.map_congr_left fun j hj=>?_
 rw [h i j (List.mem_range.1 hi) (List.mem_range.1 hj)]
theorem z5U (n:Nat) (b:Bool):rowR n (fun _=>b)=List.replicate n (bvC b):=by
 simp [rowR,List.map_const']
theorem matR_rep (n:Nat) (b:Bool):matR n (fun _ _=>b)=List.replicate n (List.replicate n (bvC b)):=by
 simp [matR,z5U,List.map_const']
def hpMr (n:Nat) (f:Nat→Nat→Bool):Hp:=(0,.arow 62 (owns 10 n)) :: mat 4 1 10 (matR n f)
theorem z3k {n:Nat} (f:Nat→Nat→Bool) (hn:n≤1000000) (t:Nat) (o:AO) (h:(hpMr n f).lookup t=some o):t<1000010∧o.okB 1000010=true:=by
 unfold hpMr at h
 by_cases e:t=0
 ·subst e
  rw [zB] at h;cases h
  exact ⟨by omega,z8f n 10 1000010 (by omega)⟩
 ·rw [zo e,z3M] at h
  split at h
  ·obtain ⟨r,h1,rfl⟩:=Option.map_eq_some_iff.1 h
   have:=(List.getElem?_eq_some_iff.1 h1).1
   rw [z3o] at this
   exact ⟨by omega,rfl⟩
  ·cases h
theorem zi.matD (n:Nat) (f:Nat→Nat→Bool) (q m N:Nat):zi ⟨[(q,.own 0)],hpMr n f,m,N⟩ ⟨[(q,.p (.seq 1 ((matR n f).map fun r => [PV.seq 1 r])))],[],m,N⟩:=by
 refine zi.trans (s2:=⟨[(q,.own 0)],(0,.arow 62 (owns 10 (matR n f).length)) :: mat 4 1 10 (matR n f),m,N⟩) (by rw [z3o];exact zi.refl _) ?_
 refine (zi.frzMat [(q,.own 0)] (fun t y=>by simp [AV.sub]) m N 62 4 10 (matR n f) (by decide)).trans ?_
 refine (zi.frz _ 0).trans ?_
 simp only [ASt.frz,zB,ASt.subst,yl,AV.sub,if_true]
 exact zi.refl _
def immL (l:List Ev) (i j:Nat):Bool:=match l[i]?,l[j]? with
 | some x,some y=>immB l x y i j
 | _,_=>false
def hbB (l:List Ev) (j a:Nat):Bool:=(List.range j).attach.any fun ⟨i,hi⟩=>immL l i j&&(a==i||(decide (a<i)&&hbB l i a))
termination_by j
decreasing_by exact List.mem_range.1 hi
def colB (l:List Ev) (j r a:Nat):Bool:=(List.range j).any fun i=>decide (r≤i)&&immL l i j&&(a==i||(decide (a<i)&&hbB l i a))
theorem hbB_eq (l:List Ev) (j a:Nat):hbB l j a=colB l j 0 a:=by
 rw [hbB,colB]
 simp only [Nat.zero_le,decide_true,Bool.true_and]
 conv=>rhs;rw [← List.attach_map_subtype_val (List.range j)]
 rw [List.any_map];rfl
theorem colB_end (l:List Ev) (j a:Nat):colB l j j a=false:=by
 unfold colB
 rw [List.any_eq_false]
 intro i hi
 have:=List.mem_range.1 hi
 simp;omega
theorem any_or {α:Type} (l:List α) (p q : α→Bool):(l.any fun x=>p x||q x)=(l.any p||l.any q):=by
 induction l with
 | nil=>rfl
 | cons x r ih=>simp only [List.any_cons,ih];cases p x <;> cases q x <;> simp
theorem any_one (j r:Nat) (c:Bool) (h:r<j):((List.range j).any fun i=>decide (i=r)&&c)=c:=by
 cases c with
 | false=>simp
 | true=>rw [List.any_eq_true];exact ⟨r,List.mem_range.2 h,by simp⟩
theorem z6i (l:List Ev) (j r a:Nat) (h:r<j):colB l j r a=(colB l j (r+1) a||(immL l r j&&(a==r||(decide (a<r)&&hbB l r a)))):=by
 have e:=any_one j r (immL l r j&&(a==r||(decide (a<r)&&hbB l r a))) h
 unfold colB
 rw [← e,← any_or]
 congr 1
 funext i
 by_cases hi:i=r
 ·subst hi;simp;intro h;omega
 ·have:decide (r≤i)=decide (r+1≤i):=by simp;omega
  rw [this];simp [hi]
def stM (l:List Ev) (j:Nat) (g:Nat→Bool):Nat→Nat→Bool:=fun a b=>if b<j then hbB l b a else if b=j then g a else false
def gK (l:List Ev) (j r k:Nat):Nat→Bool:=fun a=>colB l j (r+1) a||(a==r)||(decide (a<k)&&hbB l r a)
theorem st_init (l:List Ev) (n j r:Nat):matR n (updM (stM l j (colB l j (r+1))) r j true)=matR n (stM l j (gK l j r 0)):=by
 congr 1
 funext a b
 simp only [updM,stM,gK]
 by_cases hb:b<j
 ·rw [if_neg (by omega),if_pos hb,if_pos hb]
 ·by_cases hj:b=j
  ·subst hj
   by_cases ha:a=r
   ·subst ha;simp
   ·simp [ha]
  ·rw [if_neg (by omega),if_neg hb,if_neg hb,if_neg hj,if_neg hj]
theorem st_yes {l:List Ev} {j r k:Nat} (n:Nat) (hv:hbB l r k=true):matR n (updM (stM l j (gK l j r k)) k j true)=matR n (stM l j (gK l j r (k+1))):=by
 congr 1
 funext a b
 simp only [updM,stM,gK]
 by_cases hb:b<j
 ·rw [if_neg (by omega),if_pos hb,if_pos hb]
 ·by_cases hj:b=j
  ·subst hj
   by_cases ha:a=k
   ·subst ha;simp [hv]
   ·rw [if_neg (fun h=>ha h.1),if_neg hb,if_pos rfl,if_neg hb,if_pos rfl,show decide (a<k+1)=decide (a<k) by simp;omega]
  ·rw [if_neg (by omega),if_neg hb,if_neg hb,if_neg hj,if_neg hj]
theorem st_no {l:List Ev} {j r k:Nat} (n:Nat) (hv:hbB l r k=false):matR n (stM l j (gK l j r k))=matR n (stM l j (gK l j r (k+1))):=by
 congr 1
 funext a b
 simp only [stM,gK]
 by_cases ha:a=k
 ·subst ha;simp [hv]
 ·rw [show decide (a<k+1)=decide (a<k) by simp;omega]
theorem st_end {l:List Ev} {j r:Nat} (n:Nat) (hr:r<j) (h:immL l r j=true):matR n (stM l j (gK l j r r))=matR n (stM l j (colB l j r)):=by
 have:gK l j r r=colB l j r:=by
  funext a
  rw [z6i l j r a hr,gK,h,Bool.true_and,Bool.or_assoc]
 rw [this]
theorem st_skip {l:List Ev} {j r:Nat} (n:Nat) (hr:r<j) (h:immL l r j=false):matR n (stM l j (colB l j (r+1)))=matR n (stM l j (colB l j r)):=by
 have:colB l j (r+1)=colB l j r:=by
  funext a
  rw [z6i l j r a hr,h];simp
 rw [this]
theorem st_next (l:List Ev) (n j:Nat):matR n (stM l j (colB l j 0))=matR n (stM l (j+1) fun _=>false):=by
 congr 1
 funext a b
 simp only [stM]
 by_cases hb:b<j
 ·rw [if_pos hb,if_pos (by omega)]
 ·by_cases hj:b=j
  ·subst hj;rw [if_neg hb,if_pos rfl,if_pos (by omega),hbB_eq]
  ·rw [if_neg hb,if_neg hj,if_neg (by omega)];simp
theorem st_zero (l:List Ev) (n j:Nat):matR n (stM l j fun _=>false)=matR n (stM l j (colB l j j)):=by
 have:colB l j j=fun _=>false:=by funext a;exact colB_end l j a
 rw [this]
theorem st_fin (l:List Ev) (n:Nat):matR n (stM l n fun _=>false)=matR n fun a b=>hbB l b a:=by
 refine z8K fun i j hi hj=>?_
 simp only [stM]
 rw [if_pos hj]
theorem st_first (l:List Ev) (n:Nat):List.replicate n (rowR n fun _=>false)=matR n (stM l 0 fun _=>false):=by
 have:(stM l 0 fun _=>false)=fun _ _=>false:=by funext a b;simp [stM]
 rw [this,matR_rep,z5U]
theorem immL_eq {l:List Ev} {i j:Nat} {x y:Ev} (hx:l[i]? = some x) (hy:l[j]? = some y):immL l i j=immB l x y i j:=by simp [immL,hx,hy]
def arS (n i:Nat):List AV:=owns 10 i++List.replicate (n-i) (.p (.val nilV))
theorem arS_len {n i:Nat} (h:i≤n):(arS n i).length=n:=by simp [arS,z3r];omega
theorem arS_step {n i:Nat} (h:i<n) (hn:n≤1000000):List.map (AV.ren 1000010 (i+10)) ((arS n i).set i (.own 1000010))=arS n (i+1):=by
 have e1:(arS n i).set i (.own 1000010)=owns 10 i++(.own 1000010 :: List.replicate (n-(i+1)) (.p (.val nilV))):=by
  unfold arS
  rw [List.set_append_right _ _ (by rw [z3r];exact Nat.le_refl _),z3r,Nat.sub_self,show n-i=(n-(i+1))+1 by omega,List.replicate_succ,List.set_cons_zero]
 rw [e1,List.map_append,List.map_cons,z8g _ _ _ _ (.inr (by omega)) (.inr (by omega)),AV.zZ,if_pos rfl,List.map_replicate,AV.zW,arS,z6D,List.append_assoc]
 rfl
theorem arow_ok {e:Nat} {cs:List AV} {R:List (List (List PV))} {m:Nat} (h1:cs.all (AV.okB m)=true) (h2 : 10+R.length≤m) (t:Nat) (o:AO) (h:List.lookup t ((0,.arow e cs) :: mat 4 1 10 R)=some o):t<m∧o.okB m=true:=by
 by_cases e:t=0
 ·subst e
  rw [zB] at h;cases h
  exact ⟨by omega,h1⟩
 ·rw [zo e,z3M] at h
  split at h
  ·obtain ⟨r,h1,rfl⟩:=Option.map_eq_some_iff.1 h
   have:=(List.getElem?_eq_some_iff.1 h1).1
   exact ⟨by omega,rfl⟩
  ·cases h
theorem arS_ok {n i:Nat} (hi:i≤1000000):(arS n i).all (AV.okB 1000010)=true:=by
 unfold arS
 rw [List.all_append,z8f _ _ _ (by omega),Bool.true_and]
 simp [AV.okB]
theorem mat_push (o0:AO) (e n:Nat) (R:List (List (List PV))) (r:List (List PV)) (t:Nat):List.lookup t ((0,o0) :: mat e n 10 (R ++ [r]))=List.lookup t ((R.length+10,.row e n r) :: (0,o0) :: mat e n 10 R):=by
 by_cases h0:t=0
 ·subst h0;rw [zB,zo (by omega),zB]
 ·rw [zo h0]
  by_cases h1:t=R.length+10
  ·subst h1;rw [zB,z3M,if_pos (by omega),Nat.add_sub_cancel,List.getElem?_append_right (Nat.le_refl _),Nat.sub_self];rfl
  ·rw [zo h1,zo h0,z3M,z3M]
   split
   ·by_cases h2:t-10<R.length
    ·rw [List.getElem?_append_left h2]
    ·rw [List.getElem?_eq_none (by simp;omega),List.getElem?_eq_none (by omega)]
   ·rfl
theorem z7s (l:List Ev) (hl:l.length≤1000000):zt Tryz.prog 11 [.p (.seq 9 (l.map evC))] (.p (.seq 1 ((matR l.length fun a b=>hbB l b a).map fun r => [.seq 1 r]))):=by
 obtain ⟨n,hn⟩ : ∃ n,n=l.length:=⟨_,rfl⟩
 have hml:(n:Int).toNat≤maxLen:=by unfold maxLen;simp;omega
 have hml' : n≤maxLen:=by unfold maxLen;omega
 have hmb : 24*n≤140737488355328:=by omega
 have hmb1 : 1*n≤140737488355328:=by omega
 rw [← hn] at hl ⊢
 refine zt.of Tryz.func11 rfl 65 rfl (by decide) (by simp [AV.okB]) ?_
 repeat' (first|refine T.zk fun K hK=>?_|apply T.block|(refine T.reg (by kernel_rfl) fun K' hK'=>?_;simp only [bz];(with_reducible repeat' (first|(apply WL.fin;apply hK';clear hK' K')|(refine WL.step fun K2 hK2=>?_;simp only [simprocAttr,implies_true,amz,zf,tys,← hn,hml',hmb];repeat' (first|(apply hK2;clear hK2 K2)|apply And.intro|intro hb)))))|apply T.skip|apply T.exit|refine T.zh rfl ?_|refine T.zg rfl ?_|refine T.cond rfl (fun hc=>?_) (fun hc=>?_)|apply T.ret|simp only [ze,z8,reduceIte,Nat.reduceEqDiff]|((repeat ((fail_if_success apply hK);clear hK K));apply hK;clear hK K))
 rw [show List.replicate n [PV.val (.slice none 0 0)]=(List.replicate n (PV.val (.slice none 0 0))).map fun x => [x] by simp]
 refine T.weak (zi.toA _ 0 62 _ rfl) ?_
 refine T.weak (zi.upN _ 1000010 (by simp)) ?_
 simp only [zO,yl,if_true,List.map_replicate]
 have hR0:rowR n (fun _=>false)=List.replicate n [PV.val (.bool false)]:=z5U n false
 refine T.z02 (fun i:Nat=>⟨[(0,.p (.seq 9 (l.map evC))),(2,.p (.val nilV)),(3,.own 0),(4,.int i)],(0,.arow 62 (arS n i)) :: mat 4 1 10 (List.replicate i (rowR n fun _=>false)),65,1000010⟩) (fun i=>i≤n) (fun i=>n-i) 0 (Nat.zero_le _) ?_ ?_
 ·refine zi.frm _ _ _ _ (fun t=>?_) (by simp only [wks,reduceIte,Nat.reduceEqDiff,implies_true,and_self,Int.natCast_zero]) (by simp only [wks,AV.okB,Nat.reduceLT,decide_true,List.all_cons,List.all_nil,Bool.and_self,Int.natCast_zero]) ?_
  ·simp [arS,owns,mat]
  ·exact fun t o h=>arow_ok (arS_ok (by omega)) (by simp) t o h
 intro i hi KL hKL
 by_cases hlt:i<n
 ·have hd:decide ((i:Int)<(n:Int))=true:=by simpa using hlt
  have hst:=arS_step hlt hl
  have hal:=arS_len (n:=n) (i:=i) (by omega)
  have hz0:(i+10=0)=False:=by simp
  have hne0:List.filter (fun p=>p.1 != 1000010&&p.1 != i+10) (mat 4 1 10 (List.replicate i (rowR n fun _=>false)))=mat 4 1 10 (List.replicate i (rowR n fun _=>false)):=mat_ne2 _ _ _ _ _ _ (.inr (by simp;omega)) (.inr (by simp;omega))
  have hz1:(0 != i+10)=true:=by simp
  have hz2:(1000010=i+10)=False:=by simp;omega
  have hz3:(i+10<1000011)=True:=by simp;omega
  repeat' (first|refine T.zk fun K hK=>?_|apply T.block|(refine T.reg (by kernel_rfl) fun K' hK'=>?_;simp only [bz];(with_reducible repeat' (first|(apply WL.fin;apply hK';clear hK' K')|(refine WL.step fun K2 hK2=>?_;simp only [simprocAttr,implies_true,amz,zf,tys,← hn,hd,hml',hmb,hmb1,hal,hlt,mat_set0U,mat_below];repeat' (first|(apply hK2;clear hK2 K2)|apply And.intro|intro hb)))))|apply T.skip|apply T.exit|refine T.zh rfl ?_|refine T.zg rfl ?_|refine T.cond rfl (fun hc=>?_) (fun hc=>?_)|apply T.ret|simp only [ze,z8,reduceIte,Nat.reduceEqDiff]|((repeat ((fail_if_success apply hK);clear hK K));apply hK;clear hK K))
  have hrep:mat 4 1 10 (List.replicate (i+1) (rowR n fun _=>false))=mat 4 1 10 (List.replicate i (rowR n fun _=>false) ++ [List.replicate n [PV.val (.bool false)]]):=by rw [List.replicate_succ',hR0]
  refine hKL _ (i+1) ((zi.ren _ 1000010 (i+10)).trans ?_) (by omega) (by omega)
  rw [hrep]
  simp only [ASt.ren,AV.zZ,AV.zG,AV.qd,AV.qw,AV.zW,AV.zF,AV.zA,AV.qc,AV.qO,AV.zD,AV.qx,AO.qD,AO.qG,AO.qE,AO.qF,yl,List.filter_cons,List.filter_nil,zq,qp,reduceIte,Nat.reduceEqDiff,Nat.reduceLT,Nat.reduceBneDiff,bne_self_eq_false,Bool.and_true,Bool.and_false,Bool.true_and,Bool.false_and,Bool.and_self,Bool.false_eq_true,ne_eq,not_false_eq_true,not_true_eq_false,and_self,and_true,true_and,and_false,AO.ren_arow,hz0,hne0,hz1,hz2,hz3,mat_ren,hst]
  refine zi.frm _ _ _ _ (fun t=>?_) (by simp only [wks,reduceIte,Nat.reduceEqDiff,implies_true,and_self,zx (show i<1152921504606846976 by omega)]) (by simp only [wks,AV.okB,Nat.reduceLT,decide_true,List.all_cons,List.all_nil,Bool.and_self,zx (show i<1152921504606846976 by omega)]) ?_
  ·rw [mat_push,List.length_replicate]
  ·exact fun t o h=>arow_ok (arS_ok (by omega)) (by simp;omega) t o h
 ·have hd:decide ((i:Int)<(n:Int))=false:=by simpa using hlt
  have hin:n=i:=by omega
  subst hin
  repeat' (first|refine T.zk fun K hK=>?_|apply T.block|(refine T.reg (by kernel_rfl) fun K' hK'=>?_;simp only [bz];(with_reducible repeat' (first|(apply WL.fin;apply hK';clear hK' K')|(refine WL.step fun K2 hK2=>?_;simp only [simprocAttr,implies_true,amz,zf,tys,← hn,hd];repeat' (first|(apply hK2;clear hK2 K2)|apply And.intro|intro hb)))))|apply T.skip|apply T.exit|refine T.zh rfl ?_|refine T.zg rfl ?_|refine T.cond rfl (fun hc=>?_) (fun hc=>?_)|apply T.ret|simp only [ze,z8,reduceIte,Nat.reduceEqDiff]|((repeat ((fail_if_success apply hK);clear hK K));apply hK;clear hK K))
  refine T.z02 (fun j:Nat=>⟨[(0,.p (.seq 9 (l.map evC))),(2,.p (.val nilV)),(3,.own 0),(5,.int j)],hpMr n (stM l j fun _=>false),65,1000010⟩) (fun j=>j≤n) (fun j=>n-j) 0 (Nat.zero_le _) ?_ ?_
  ·refine zi.frm _ _ _ _ (fun t=>?_) (by simp only [wks,reduceIte,Nat.reduceEqDiff,implies_true,and_self,Int.natCast_zero]) (by simp only [wks,AV.okB,Nat.reduceLT,decide_true,List.all_cons,List.all_nil,Bool.and_self,Int.natCast_zero]) ?_
   ·rw [hpMr,← st_first,show arS n n=owns 10 n by simp [arS]]
   ·exact fun t o h=>z3k _ hl t o h
  intro j hj KL2 hKL2
  by_cases hjn:j<n
  ·have hdj:decide ((j:Int)<(n:Int))=true:=by simpa using hjn
   have hw1:IntKind.i64.wrap ((j:Int)-1)=(j:Int)-1:=by rw [IntKind.wrap_i64];omega
   obtain ⟨y,hy⟩:=qA (show j<l.length by omega)
   repeat' (first|refine T.zk fun K hK=>?_|apply T.block|(refine T.reg (by kernel_rfl) fun K' hK'=>?_;simp only [bz];(with_reducible repeat' (first|(apply WL.fin;apply hK';clear hK' K')|(refine WL.step fun K2 hK2=>?_;simp only [simprocAttr,implies_true,amz,zf,tys,← hn,hdj,hw1];repeat' (first|(apply hK2;clear hK2 K2)|apply And.intro|intro hb)))))|apply T.skip|apply T.exit|refine T.zh rfl ?_|refine T.zg rfl ?_|refine T.cond rfl (fun hc=>?_) (fun hc=>?_)|apply T.ret|simp only [ze,z8,reduceIte,Nat.reduceEqDiff]|((repeat ((fail_if_success apply hK);clear hK K));apply hK;clear hK K))
   refine T.z02 (fun r:Nat=>⟨[(0,.p (.seq 9 (l.map evC))),(2,.p (.val nilV)),(3,.own 0),(5,.int j),(6,.int ((r:Int)-1))],hpMr n (stM l j (colB l j r)),65,1000010⟩) (fun r=>r≤j) (fun r=>r) j (Nat.le_refl _) ?_ ?_
   ·refine zi.frm _ _ _ _ (fun t=>?_) (by simp only [wks,reduceIte,Nat.reduceEqDiff,implies_true,and_self,]) (by simp only [wks,AV.okB,Nat.reduceLT,decide_true,List.all_cons,List.all_nil,Bool.and_self,]) ?_
    ·rw [hpMr,hpMr,st_zero]
    ·exact fun t o h=>z3k _ hl t o h
   intro r hr KL3 hKL3
   rcases r with _|r
   ·have hd3:decide ((0:Int)≤((0:Nat):Int)-1)=false:=by decide
    repeat' (first|refine T.zk fun K hK=>?_|apply T.block|(refine T.reg (by kernel_rfl) fun K' hK'=>?_;simp only [bz];(with_reducible repeat' (first|(apply WL.fin;apply hK';clear hK' K')|(refine WL.step fun K2 hK2=>?_;simp only [simprocAttr,implies_true,amz,zf,tys,← hn,hd3];repeat' (first|(apply hK2;clear hK2 K2)|apply And.intro|intro hb)))))|apply T.skip|apply T.exit|refine T.zh rfl ?_|refine T.zg rfl ?_|refine T.cond rfl (fun hc=>?_) (fun hc=>?_)|apply T.ret|simp only [ze,z8,reduceIte,Nat.reduceEqDiff]|((repeat ((fail_if_success apply hK);clear hK K));apply hK;clear hK K))
    refine hKL2 _ (j+1) ?_ (by omega) (by omega)
    refine zi.frm _ _ _ _ (fun t=>?_) (by simp only [wks,reduceIte,Nat.reduceEqDiff,implies_true,and_self,zx (show j<1152921504606846976 by omega)]) (by simp only [wks,AV.okB,Nat.reduceLT,decide_true,List.all_cons,List.all_nil,Bool.and_self,zx (show j<1152921504606846976 by omega)]) ?_
    ·rw [hpMr,hpMr,st_next]
    ·exact fun t o h=>z3k _ hl t o h
   ·have hr1:(((r+1:Nat):Int)-1)=(r:Int):=by omega
    have hwr:IntKind.i64.wrap ((r:Int)-1)=(r:Int)-1:=by rw [IntKind.wrap_i64];omega
    rw [hr1]
    obtain ⟨x,hx⟩:=qA (show r<l.length by omega)
    have himm:=imm_ok l r j x y hx hy (by omega) (by omega)
    have hiL:=immL_eq hx hy
    cases hb:immB l x y r j with
    | false =>
     rw [hb] at himm hiL
     repeat' (first|refine T.zk fun K hK=>?_|apply T.block|(refine T.reg (by kernel_rfl) fun K' hK'=>?_;simp only [bz];(repeat' (first|(with_reducible refine WL.fin ?_;apply hK';clear hK' K')|((with_reducible refine WL.step fun K2 hK2=>?_);simp only [simprocAttr,implies_true,amz,zf,tys,← hn,hwr,decide_true];(repeat' (first|with_reducible (first|(apply hK2;clear hK2 K2)|apply And.intro|intro hb)|((with_reducible first|apply zl|apply zn);case h=>exact CallV.plain (Ent.of Tryz.func36 (by kernel_rfl) rfl) (himm) (by simp [AV.okB]))))))))|apply T.skip|apply T.exit|refine T.zh rfl ?_|refine T.zg rfl ?_|refine T.cond rfl (fun hc=>?_) (fun hc=>?_)|apply T.ret|simp only [ze,z8,reduceIte,Nat.reduceEqDiff]|((repeat ((fail_if_success apply hK);clear hK K));apply hK;clear hK K))
     refine hKL3 _ r ?_ (by omega) (by omega)
     refine zi.frm _ _ _ _ (fun t=>?_) (by simp only [wks,reduceIte,Nat.reduceEqDiff,implies_true,and_self,]) (by simp only [wks,AV.okB,Nat.reduceLT,decide_true,List.all_cons,List.all_nil,Bool.and_self,]) ?_
     ·rw [hpMr,hpMr,st_skip n (by omega) hiL]
     ·exact fun t o h=>z3k _ hl t o h
    | true =>
     rw [hb] at himm hiL
     have hrn:r<n:=by omega
     obtain ⟨f,hf⟩ : ∃ f,f=stM l j (colB l j (r+1)):=⟨_,rfl⟩
     rw [← hf]
     simp only [hpMr]
     have o1:=z4e n 10 r hrn
     have o2:=z3r n 10
     have m1:=z3z f hrn
     have m2:=z2Q (f r) hjn
     have m3:=z2w n (f r)
     have m4:List.set (matR n f) r (List.set (rowR n (f r)) j [PV.val (.bool true)])=matR n (updM f r j true):=z7X f true hrn hjn
     have hz0:(r+10=0)=False:=by simp
     repeat' (first|refine T.zk fun K hK=>?_|apply T.block|(refine T.reg (by kernel_rfl) fun K' hK'=>?_;simp only [bz];(repeat' (first|(with_reducible refine WL.fin ?_;apply hK';clear hK' K')|((with_reducible refine WL.step fun K2 hK2=>?_);simp only [simprocAttr,implies_true,amz,zf,tys,← hn,hwr,decide_true,o1,o2,hrn,hjn,hz0,mat_at,m1,bvC,m2,m3,z7Y,m4];(repeat' (first|with_reducible (first|(apply hK2;clear hK2 K2)|apply And.intro|intro hb)|((with_reducible first|apply zl|apply zn);case h=>exact CallV.plain (Ent.of Tryz.func36 (by kernel_rfl) rfl) (himm) (by simp [AV.okB]))))))))|apply T.skip|apply T.exit|refine T.zh rfl ?_|refine T.zg rfl ?_|refine T.cond rfl (fun hc=>?_) (fun hc=>?_)|apply T.ret|simp only [ze,z8,reduceIte,Nat.reduceEqDiff]|((repeat ((fail_if_success apply hK);clear hK K));apply hK;clear hK K))
     refine T.z02 (fun k:Nat=>⟨[(0,.p (.seq 9 (l.map evC))),(2,.p (.val nilV)),(3,.own 0),(5,.int j),(6,.int r),(7,.int k)],hpMr n (stM l j (gK l j r k)),65,1000010⟩) (fun k=>k≤r) (fun k=>r-k) 0 (Nat.zero_le _) ?_ ?_
     ·refine zi.frm _ _ _ _ (fun t=>?_) (by simp only [wks,reduceIte,Nat.reduceEqDiff,implies_true,and_self,Int.natCast_zero]) (by simp only [wks,AV.okB,Nat.reduceLT,decide_true,List.all_cons,List.all_nil,Bool.and_self,Int.natCast_zero]) ?_
      ·rw [hpMr,hf,st_init]
      ·exact fun t o h=>z3k _ hl t o h
     intro k hk KL4 hKL4
     by_cases hkr:k<r
     ·have hdk:decide ((k:Int)<(r:Int))=true:=by simpa using hkr
      have hkn:k<n:=by omega
      have hval:stM l j (gK l j r k) k r=hbB l r k:=by simp only [stM];rw [if_pos (by omega)]
      cases hv:hbB l r k with
      | false =>
       obtain ⟨g,hg⟩ : ∃ g,g=stM l j (gK l j r k):=⟨_,rfl⟩
       rw [← hg,hv] at hval
       rw [← hg]
       simp only [hpMr]
       have o1:=z4e n 10 k hkn
       have m1:=z3z g hkn
       have m2:=z2Q (g k) hrn
       have m3:=z2w n (g k)
       have hz0:(k+10=0)=False:=by simp
       repeat' (first|refine T.zk fun K hK=>?_|apply T.block|(refine T.reg (by kernel_rfl) fun K' hK'=>?_;simp only [bz];(with_reducible repeat' (first|(apply WL.fin;apply hK';clear hK' K')|(refine WL.step fun K2 hK2=>?_;simp only [simprocAttr,implies_true,amz,zf,tys,← hn,hdk,o1,o2,hkn,hrn,hjn,hz0,mat_at,m1,bvC,m2,m3,hval];repeat' (first|(apply hK2;clear hK2 K2)|apply And.intro|intro hb)))))|apply T.skip|apply T.exit|refine T.zh rfl ?_|refine T.zg rfl ?_|refine T.cond rfl (fun hc=>?_) (fun hc=>?_)|apply T.ret|simp only [ze,z8,reduceIte,Nat.reduceEqDiff]|((repeat ((fail_if_success apply hK);clear hK K));apply hK;clear hK K))
       refine hKL4 _ (k+1) ?_ (by omega) (by omega)
       refine zi.frm _ _ _ _ (fun t=>?_) (by simp only [wks,reduceIte,Nat.reduceEqDiff,implies_true,and_self,zx (show k<1152921504606846976 by omega)]) (by simp only [wks,AV.okB,Nat.reduceLT,decide_true,List.all_cons,List.all_nil,Bool.and_self,zx (show k<1152921504606846976 by omega)]) ?_
       ·rw [hpMr,hg,st_no n hv]
       ·exact fun t o h=>z3k _ hl t o h
      | true =>
       obtain ⟨g,hg⟩ : ∃ g,g=stM l j (gK l j r k):=⟨_,rfl⟩
       rw [← hg,hv] at hval
       rw [← hg]
       simp only [hpMr]
       have o1:=z4e n 10 k hkn
       have m1:=z3z g hkn
       have m2:=z2Q (g k) hrn
       have m5:=z2Q (g k) hjn
       have m3:=z2w n (g k)
       have m4:List.set (matR n g) k (List.set (rowR n (g k)) j [PV.val (.bool true)])=matR n (updM g k j true):=z7X g true hkn hjn
       have hz0:(k+10=0)=False:=by simp
       repeat' (first|refine T.zk fun K hK=>?_|apply T.block|(refine T.reg (by kernel_rfl) fun K' hK'=>?_;simp only [bz];(with_reducible repeat' (first|(apply WL.fin;apply hK';clear hK' K')|(refine WL.step fun K2 hK2=>?_;simp only [simprocAttr,implies_true,amz,zf,tys,← hn,hdk,o1,o2,hkn,hrn,hjn,hz0,mat_at,m1,bvC,m2,m3,m5,hval,z7Y,m4];repeat' (first|(apply hK2;clear hK2 K2)|apply And.intro|intro hb)))))|apply T.skip|apply T.exit|refine T.zh rfl ?_|refine T.zg rfl ?_|refine T.cond rfl (fun hc=>?_) (fun hc=>?_)|apply T.ret|simp only [ze,z8,reduceIte,Nat.reduceEqDiff]|((repeat ((fail_if_success apply hK);clear hK K));apply hK;clear hK K))
       refine hKL4 _ (k+1) ?_ (by omega) (by omega)
       refine zi.frm _ _ _ _ (fun t=>?_) (by simp only [wks,reduceIte,Nat.reduceEqDiff,implies_true,and_self,zx (show k<1152921504606846976 by omega)]) (by simp only [wks,AV.okB,Nat.reduceLT,decide_true,List.all_cons,List.all_nil,Bool.and_self,zx (show k<1152921504606846976 by omega)]) ?_
       ·rw [hpMr,hg,st_yes n hv]
       ·exact fun t o h=>z3k _ hl t o h
     ·have hdk:decide ((k:Int)<(r:Int))=false:=by simpa using hkr
      have hkr' : r=k:=by omega
      subst hkr'
      repeat' (first|refine T.zk fun K hK=>?_|apply T.block|(refine T.reg (by kernel_rfl) fun K' hK'=>?_;simp only [bz];(with_reducible repeat' (first|(apply WL.fin;apply hK';clear hK' K')|(refine WL.step fun K2 hK2=>?_;simp only [simprocAttr,implies_true,amz,zf,tys,← hn,hdk,hwr];repeat' (first|(apply hK2;clear hK2 K2)|apply And.intro|intro hb)))))|apply T.skip|apply T.exit|refine T.zh rfl ?_|refine T.zg rfl ?_|refine T.cond rfl (fun hc=>?_) (fun hc=>?_)|apply T.ret|simp only [ze,z8,reduceIte,Nat.reduceEqDiff]|((repeat ((fail_if_success apply hK);clear hK K));apply hK;clear hK K))
      refine hKL3 _ r ?_ (by omega) (by omega)
      refine zi.frm _ _ _ _ (fun t=>?_) (by simp only [wks,reduceIte,Nat.reduceEqDiff,implies_true,and_self,]) (by simp only [wks,AV.okB,Nat.reduceLT,decide_true,List.all_cons,List.all_nil,Bool.and_self,]) ?_
      ·rw [hpMr,hpMr,st_end n (by omega) hiL]
      ·exact fun t o h=>z3k _ hl t o h
  ·have hdj:decide ((j:Int)<(n:Int))=false:=by simpa using hjn
   have hin:n=j:=by omega
   subst hin
   repeat' (first|refine T.zk fun K hK=>?_|apply T.block|(refine T.reg (by kernel_rfl) fun K' hK'=>?_;simp only [bz];(with_reducible repeat' (first|(apply WL.fin;apply hK';clear hK' K')|(refine WL.step fun K2 hK2=>?_;simp only [simprocAttr,implies_true,amz,zf,tys,← hn,hdj];repeat' (first|(apply hK2;clear hK2 K2)|apply And.intro|intro hb)))))|apply T.skip|apply T.exit|refine T.zh rfl ?_|refine T.zg rfl ?_|refine T.cond rfl (fun hc=>?_) (fun hc=>?_)|apply T.ret|simp only [ze,z8,reduceIte,Nat.reduceEqDiff]|((repeat ((fail_if_success apply hK);clear hK K));apply hK;clear hK K))
   refine zP.retW (.inr rfl) Tryz.results11 (zi.trans (s2:=⟨[(2,.own 0)],hpMr n fun a b=>hbB l b a,65,1000010⟩) ?_ (zi.matD _ _ _ _ _)) ?_
   ·refine zi.frm _ _ _ _ (fun t=>?_) (by simp only [wks,reduceIte,Nat.reduceEqDiff,implies_true,and_self,]) (by simp only [wks,AV.okB,Nat.reduceLT,decide_true,List.all_cons,List.all_nil,Bool.and_self,]) ?_
    ·rw [hpMr,hpMr,st_fin]
    ·exact fun t o h=>z3k _ hl t o h
   ·simp only [zI,zu,zw,simprocAttr,implies_true,amz,zf,tys]
def setC (s:Rs) (c:Cn):Rs := { s with chans:=s.chans.filter (fun x=>x.obj != c.obj) ++ [c] }
theorem z7M {α:Type} {l:List α} {k:Nat} {x : α} {p : α→Bool} (h:l[k]? = some x) (hp:p x=true):(l.take (k+1)).filter p=(l.take k).filter p ++ [x]:=by
 rw [List.take_add_one,h,List.filter_append];simp [hp]
theorem filt_no {α:Type} {l:List α} {k:Nat} {x : α} {p : α→Bool} (h:l[k]? = some x) (hp:p x=false):(l.take (k+1)).filter p=(l.take k).filter p:=by
 rw [List.take_add_one,h,List.filter_append];simp [hp]
theorem z5v {α:Type} (l:List α) (k:Nat) (p : α→Bool):((l.take k).filter p).length≤l.length:=Nat.le_trans (List.length_filter_le _ _) (by simp;omega)
theorem z7u (s:Rs) (c:Cn) (hl:s.chans.length≤1000000):zt Tryz.prog 93 [rsA s,cnA c] (rsA (setC s c)):=by
 simp only [rsA,rsC,yl,cnA,cnC]
 refine zt.of Tryz.func93 rfl 37 rfl (by decide) (by simp [AV.okB]) ?_
 repeat' (first|refine T.zk fun K hK=>?_|apply T.block|(refine T.reg (by kernel_rfl) fun K' hK'=>?_;simp only [bz];(with_reducible repeat' (first|(apply WL.fin;apply hK';clear hK' K')|(refine WL.step fun K2 hK2=>?_;simp only [simprocAttr,implies_true,amz,zf,tys];repeat' (first|(apply hK2;clear hK2 K2)|apply And.intro|intro hb)))))|apply T.skip|apply T.exit|refine T.zh rfl ?_|refine T.zg rfl ?_|refine T.cond rfl (fun hc=>?_) (fun hc=>?_)|apply T.ret|simp only [ze,z8,reduceIte,Nat.reduceEqDiff]|((repeat ((fail_if_success apply hK);clear hK K));apply hK;clear hK K))
 refine T.z02 (fun k:Nat=>⟨[(0,rsA s),(1,cnA c),(2,.ptr 0 0),(3,.ptr 1 0),(4,.ptr 2 0),(5,.own 3),(6,.int k)],[(3,.row 167 5 (((s.chans.take k).filter fun x=>x.obj != c.obj).map cnC)),(2,.box 130 [.int 0,.int 0,.p (.val (.slice none 0 0)),.p (.val (.slice none 0 0)),.p (.val (.slice none 0 0)),.p (.val (.slice none 0 0)),.int 0,.int 0,.int 0]),(1,.box 167 ((cnC c).map .p)),(0,.box 130 ((rsC s).map .p))],37,4⟩) (fun k=>k≤s.chans.length) (fun k=>s.chans.length-k) 0 (Nat.zero_le _) ((zi.z3p _ 5 167 5 (show 5<37 by decide) rfl).trans (by refine zi.of' rfl ?_;simp only [wks,reduceIte,Nat.reduceEqDiff,ASt.okB,AV.okB,Nat.reduceLT,implies_true,ASt.add,z07,Int.natCast_zero,rsA,rsC,cnC,cnA,yl,List.take_zero,List.filter_nil])) ?_
 ·rintro k hk KL hKL
  simp only [rsA,rsC,yl,cnC,cnA]
  by_cases hlt:k<s.chans.length
  ·obtain ⟨x,hx⟩:=qA hlt
   have hd:decide ((k:Int)<(s.chans.length:Int))=true:=by simpa using hlt
   have hln:=z5v s.chans k (fun x=>x.obj != c.obj)
   have hmx:((s.chans.take k).filter fun x=>x.obj != c.obj).length+1≤maxLen:=by unfold maxLen;omega
   have hmy:(((s.chans.take k).filter fun x=>x.obj != c.obj).length+1)*40≤140737488355328:=by omega
   repeat' (first|refine T.zk fun K hK=>?_|apply T.block|(refine T.reg (by kernel_rfl) fun K' hK'=>?_;simp only [bz];(with_reducible repeat' (first|(apply WL.fin;apply hK';clear hK' K')|(refine WL.step fun K2 hK2=>?_;simp only [simprocAttr,implies_true,amz,zf,tys,hx,hd,cnC];repeat' (first|(apply hK2;clear hK2 K2)|apply And.intro|intro hb)))))|apply T.skip|apply T.exit|refine T.zh rfl ?_|refine T.zg rfl ?_|refine T.cond rfl (fun hc=>?_) (fun hc=>?_)|apply T.ret|simp only [ze,z8,reduceIte,Nat.reduceEqDiff]|((repeat ((fail_if_success apply hK);clear hK K));apply hK;clear hK K))
   refine T.drw 9 (by kernel_rfl) (by kernel_rfl) fun K' hK'=>?_;simp only [yl];(repeat' (first|(with_reducible refine WL.fin ?_;apply hK';clear hK' K')|(with_reducible refine WD.fin ?_)|((with_reducible first|refine WL.step fun K2 hK2=>?_|refine WD.step fun K2 hK2=>?_);simp only [simprocAttr,implies_true,amz,zf,tys,hx,hd,cnC];(repeat' with_reducible (first|(apply hK2;clear hK2 K2)|apply And.intro|intro hb)))));all_goals ((try simp only [ze,z8,reduceIte,Nat.reduceEqDiff]);(try ((repeat ((fail_if_success apply hK);clear hK K));apply hK;clear hK K)))
   repeat' (first|refine T.zk fun K hK=>?_|apply T.block|(refine T.reg (by kernel_rfl) fun K' hK'=>?_;simp only [bz];(with_reducible repeat' (first|(apply WL.fin;apply hK';clear hK' K')|(refine WL.step fun K2 hK2=>?_;simp only [simprocAttr,implies_true,amz,zf,tys,hx,hd,cnC,hmx,hmy,ml_1];repeat' (first|(apply hK2;clear hK2 K2)|apply And.intro|intro hb)))))|apply T.skip|apply T.exit|refine T.zh rfl ?_|refine T.zg rfl ?_|refine T.cond rfl (fun hc=>?_) (fun hc=>?_)|apply T.ret|simp only [ze,z8,reduceIte,Nat.reduceEqDiff]|((repeat ((fail_if_success apply hK);clear hK K));apply hK;clear hK K))
   ·have e:((s.chans.take (k+1)).filter fun x=>x.obj != c.obj).map cnC=((s.chans.take k).filter fun x=>x.obj != c.obj).map cnC ++ [cnC x]:=by rw [z7M hx hc];simp
    refine hKL _ (k+1) (by refine zi.of' rfl ?_;simp only [wks,reduceIte,Nat.reduceEqDiff,ASt.okB,AV.okB,Nat.reduceLT,implies_true,zx (show k<1152921504606846976 by omega),rsA,rsC,cnC,cnA,yl,e]) (by omega) (by omega)
   ·have e:((s.chans.take (k+1)).filter fun x=>x.obj != c.obj).map cnC=((s.chans.take k).filter fun x=>x.obj != c.obj).map cnC:=by rw [filt_no hx hc]
    refine hKL _ (k+1) (by refine zi.of' rfl ?_;simp only [wks,reduceIte,Nat.reduceEqDiff,ASt.okB,AV.okB,Nat.reduceLT,implies_true,zx (show k<1152921504606846976 by omega),rsA,rsC,cnC,cnA,yl,e]) (by omega) (by omega)
  ·have hd:decide ((k:Int)<(s.chans.length:Int))=false:=by simpa using hlt
   have hln:=z5v s.chans k (fun x=>x.obj != c.obj)
   have hmx:((s.chans.take k).filter fun x=>x.obj != c.obj).length+1≤maxLen:=by unfold maxLen;omega
   have hmy:(((s.chans.take k).filter fun x=>x.obj != c.obj).length+1)*40≤140737488355328:=by omega
   repeat' (first|refine T.zk fun K hK=>?_|apply T.block|(refine T.reg (by kernel_rfl) fun K' hK'=>?_;simp only [bz];(with_reducible repeat' (first|(apply WL.fin;apply hK';clear hK' K')|(refine WL.step fun K2 hK2=>?_;simp only [simprocAttr,implies_true,amz,zf,tys,hd,cnC,hmx,hmy,ml_1];repeat' (first|(apply hK2;clear hK2 K2)|apply And.intro|intro hb)))))|apply T.skip|apply T.exit|refine T.zh rfl ?_|refine T.zg rfl ?_|refine T.cond rfl (fun hc=>?_) (fun hc=>?_)|apply T.ret|simp only [ze,z8,reduceIte,Nat.reduceEqDiff]|((repeat ((fail_if_success apply hK);clear hK K));apply hK;clear hK K))
   refine zP.retW (.inr rfl) Tryz.results93 (zi.frz _ 3) ?_;simp only [zI,zu,zw,ASt.frz,ASt.subst,AO.z2j,AO.z2X,AO.z2T,AO.z2W,AO.z1h,AV.z6N,AV.z2S,AV.z2V,AV.z1M,AV.z2U,AV.z1L,AV.z1K,AV.z1J,AV.z3s,AV.z1N,List.filter_cons,List.filter_nil,bne_self_eq_false,Nat.reduceBneDiff,Nat.reduceEqDiff,Bool.false_eq_true,simprocAttr,implies_true,amz,zf,tys]
   rw [List.take_of_length_le (by omega)]
   simp [setC,cnC]
def z0F (o f:Int):List Lk→Lk
 | []=>⟨o,f,false,0⟩
 | c :: r=>if c.obj==o&&c.off==f then c else z0F o f r
theorem lock_ok (s:Rs) (o f:Int) (hl:s.locks.length≤1000000):zt Tryz.prog 94 [rsA s,.int o,.int f] (lkA (z0F o f s.locks)):=by
 simp only [rsA,rsC,yl,lkA,lkC]
 refine zt.of Tryz.func94 rfl 41 rfl (by decide) (by simp [AV.okB]) ?_
 repeat' (first|refine T.zk fun K hK=>?_|apply T.block|(refine T.reg (by kernel_rfl) fun K' hK'=>?_;simp only [bz];(with_reducible repeat' (first|(apply WL.fin;apply hK';clear hK' K')|(refine WL.step fun K2 hK2=>?_;simp only [simprocAttr,implies_true,amz,zf,tys];repeat' (first|(apply hK2;clear hK2 K2)|apply And.intro|intro hb)))))|apply T.skip|apply T.exit|refine T.zh rfl ?_|refine T.zg rfl ?_|refine T.cond rfl (fun hc=>?_) (fun hc=>?_)|apply T.ret|simp only [ze,z8,reduceIte,Nat.reduceEqDiff]|((repeat ((fail_if_success apply hK);clear hK K));apply hK;clear hK K))
 refine T.z02 (fun k:Nat=>⟨[(0,rsA s),(1,.int o),(2,.int f),(3,.ptr 0 0),(6,.ptr 1 0),(7,.int k)],[(1,.box 172 ((lkC ⟨0,0,false,0⟩).map .p)),(0,.box 130 ((rsC s).map .p))],41,2⟩) (fun k=>k≤s.locks.length∧z0F o f s.locks=z0F o f (s.locks.drop k)) (fun k=>s.locks.length-k) 0 ⟨Nat.zero_le _,rfl⟩ (by refine zi.of' rfl ?_;simp only [wks,reduceIte,Nat.reduceEqDiff,ASt.okB,AV.okB,Nat.reduceLT,implies_true,Int.natCast_zero,rsA,rsC,lkC,yl]) ?_
 ·rintro k ⟨hk,hn⟩ KL hKL
  simp only [rsA,rsC,yl,lkC]
  by_cases hlt:k<s.locks.length
  ·obtain ⟨x,hx⟩:=qA hlt
   have hd:decide ((k:Int)<(s.locks.length:Int))=true:=by simpa using hlt
   rw [drop_at hx,z0F] at hn
   have hcont:z0F o f s.locks=z0F o f (s.locks.drop (k+1)) → ∀ s',zi s' _→KL s':=fun h s' hw=>hKL s' (k+1) hw ⟨by omega,h⟩ (by omega)
   repeat' (first|refine T.zk fun K hK=>?_|apply T.block|(refine T.reg (by kernel_rfl) fun K' hK'=>?_;simp only [bz];(with_reducible repeat' (first|(apply WL.fin;apply hK';clear hK' K')|(refine WL.step fun K2 hK2=>?_;simp only [simprocAttr,implies_true,amz,zf,tys,hx,hd,lkC];repeat' (first|(apply hK2;clear hK2 K2)|apply And.intro|intro hb)))))|apply T.skip|apply T.exit|refine T.zh rfl ?_|refine T.zg rfl ?_|refine T.cond rfl (fun hc=>?_) (fun hc=>?_)|apply T.ret|simp only [ze,z8,reduceIte,Nat.reduceEqDiff]|((repeat ((fail_if_success apply hK);clear hK K));apply hK;clear hK K))
   all_goals first
    | (refine zP.ret (.inr rfl) Tryz.results94 ?_;simp only [zI,zu,zw,simprocAttr,implies_true,amz,zf,tys,];simp_all;done)
    | (refine hcont (by simp_all) _ (by refine zi.of' rfl ?_;simp only [wks,reduceIte,Nat.reduceEqDiff,ASt.okB,AV.okB,Nat.reduceLT,implies_true,zx (show k<1152921504606846976 by omega),rsA,rsC,lkC,yl]))
  ·have hd:decide ((k:Int)<(s.locks.length:Int))=false:=by simpa using hlt
   rw [z3e hlt] at hn
   repeat' (first|refine T.zk fun K hK=>?_|apply T.block|(refine T.reg (by kernel_rfl) fun K' hK'=>?_;simp only [bz];(with_reducible repeat' (first|(apply WL.fin;apply hK';clear hK' K')|(refine WL.step fun K2 hK2=>?_;simp only [simprocAttr,implies_true,amz,zf,tys,hd,lkC];repeat' (first|(apply hK2;clear hK2 K2)|apply And.intro|intro hb)))))|apply T.skip|apply T.exit|refine T.zh rfl ?_|refine T.zg rfl ?_|refine T.cond rfl (fun hc=>?_) (fun hc=>?_)|apply T.ret|simp only [ze,z8,reduceIte,Nat.reduceEqDiff]|((repeat ((fail_if_success apply hK);clear hK K));apply hK;clear hK K))
   refine zP.ret (.inr rfl) Tryz.results94 ?_;simp only [zI,zu,zw,simprocAttr,implies_true,amz,zf,tys,]
   simp [hn,z0F]
def doneB (s:Rs) (o f:Int):Bool:=s.done.any fun c=>c.1==o&&c.2==f
theorem done_ok (s:Rs) (o f:Int) (hl:s.done.length≤1000000):zt Tryz.prog 96 [rsA s,.int o,.int f] (.bool (doneB s o f)):=by
 simp only [rsA,rsC,yl]
 refine zt.of Tryz.func96 rfl 33 rfl (by decide) (by simp [AV.okB]) ?_
 repeat' (first|refine T.zk fun K hK=>?_|apply T.block|(refine T.reg (by kernel_rfl) fun K' hK'=>?_;simp only [bz];(with_reducible repeat' (first|(apply WL.fin;apply hK';clear hK' K')|(refine WL.step fun K2 hK2=>?_;simp only [simprocAttr,implies_true,amz,zf,tys];repeat' (first|(apply hK2;clear hK2 K2)|apply And.intro|intro hb)))))|apply T.skip|apply T.exit|refine T.zh rfl ?_|refine T.zg rfl ?_|refine T.cond rfl (fun hc=>?_) (fun hc=>?_)|apply T.ret|simp only [ze,z8,reduceIte,Nat.reduceEqDiff]|((repeat ((fail_if_success apply hK);clear hK K));apply hK;clear hK K))
 refine T.z02 (fun k:Nat=>⟨[(0,rsA s),(1,.int o),(2,.int f),(3,.ptr 0 0),(6,.bool false),(7,.int k)],[(0,.box 130 ((rsC s).map .p))],33,1⟩) (fun k=>k≤s.done.length∧doneB s o f=(s.done.drop k).any fun c=>c.1==o&&c.2==f) (fun k=>s.done.length-k) 0 ⟨Nat.zero_le _,rfl⟩ (by refine zi.of' rfl ?_;simp only [wks,reduceIte,Nat.reduceEqDiff,ASt.okB,AV.okB,Nat.reduceLT,implies_true,Int.natCast_zero,rsA,rsC,yl]) ?_
 ·rintro k ⟨hk,hn⟩ KL hKL
  simp only [rsA,rsC,yl]
  by_cases hlt:k<s.done.length
  ·obtain ⟨x,hx⟩:=qA hlt
   have hd:decide ((k:Int)<(s.done.length:Int))=true:=by simpa using hlt
   rw [drop_at hx,List.any_cons] at hn
   have hcont:(doneB s o f=(s.done.drop (k+1)).any fun c=>c.1==o&&c.2==f) → ∀ s',zi s' _→KL s':=fun h s' hw=>hKL s' (k+1) hw ⟨by omega,h⟩ (by omega)
   repeat' (first|refine T.zk fun K hK=>?_|apply T.block|(refine T.reg (by kernel_rfl) fun K' hK'=>?_;simp only [bz];(with_reducible repeat' (first|(apply WL.fin;apply hK';clear hK' K')|(refine WL.step fun K2 hK2=>?_;simp only [simprocAttr,implies_true,amz,zf,tys,hx,hd,loC];repeat' (first|(apply hK2;clear hK2 K2)|apply And.intro|intro hb)))))|apply T.skip|apply T.exit|refine T.zh rfl ?_|refine T.zg rfl ?_|refine T.cond rfl (fun hc=>?_) (fun hc=>?_)|apply T.ret|simp only [ze,z8,reduceIte,Nat.reduceEqDiff]|((repeat ((fail_if_success apply hK);clear hK K));apply hK;clear hK K))
   all_goals first
    | (refine zP.ret (.inr rfl) Tryz.results96 ?_;simp only [zI,zu,zw,simprocAttr,implies_true,amz,zf,tys,];simp_all;done)
    | (refine hcont (by simp_all) _ (by refine zi.of' rfl ?_;simp only [wks,reduceIte,Nat.reduceEqDiff,ASt.okB,AV.okB,Nat.reduceLT,implies_true,zx (show k<1152921504606846976 by omega),rsA,rsC,yl]))
  ·have hd:decide ((k:Int)<(s.done.length:Int))=false:=by simpa using hlt
   rw [z3e hlt] at hn
   repeat' (first|refine T.zk fun K hK=>?_|apply T.block|(refine T.reg (by kernel_rfl) fun K' hK'=>?_;simp only [bz];(with_reducible repeat' (first|(apply WL.fin;apply hK';clear hK' K')|(refine WL.step fun K2 hK2=>?_;simp only [simprocAttr,implies_true,amz,zf,tys,hd];repeat' (first|(apply hK2;clear hK2 K2)|apply And.intro|intro hb)))))|apply T.skip|apply T.exit|refine T.zh rfl ?_|refine T.zg rfl ?_|refine T.cond rfl (fun hc=>?_) (fun hc=>?_)|apply T.ret|simp only [ze,z8,reduceIte,Nat.reduceEqDiff]|((repeat ((fail_if_success apply hK);clear hK K));apply hK;clear hK K))
   refine zP.ret (.inr rfl) Tryz.results96 ?_;simp only [zI,zu,zw,simprocAttr,implies_true,amz,zf,tys,]
   simp [hn]
def z4W (c:Lk) (x:Lk):Bool:=x.obj != c.obj||x.off != c.off
def setL (s:Rs) (c:Lk):Rs := { s with locks:=s.locks.filter (z4W c) ++ [c] }
theorem z5W (s:Rs) (c:Lk) (hl:s.locks.length≤1000000):zt Tryz.prog 95 [rsA s,lkA c] (rsA (setL s c)):=by
 simp only [rsA,rsC,yl,lkA,lkC]
 refine zt.of Tryz.func95 rfl 48 rfl (by decide) (by simp [AV.okB]) ?_
 repeat' (first|refine T.zk fun K hK=>?_|apply T.block|(refine T.reg (by kernel_rfl) fun K' hK'=>?_;simp only [bz];(with_reducible repeat' (first|(apply WL.fin;apply hK';clear hK' K')|(refine WL.step fun K2 hK2=>?_;simp only [simprocAttr,implies_true,amz,zf,tys];repeat' (first|(apply hK2;clear hK2 K2)|apply And.intro|intro hb)))))|apply T.skip|apply T.exit|refine T.zh rfl ?_|refine T.zg rfl ?_|refine T.cond rfl (fun hc=>?_) (fun hc=>?_)|apply T.ret|simp only [ze,z8,reduceIte,Nat.reduceEqDiff]|((repeat ((fail_if_success apply hK);clear hK K));apply hK;clear hK K))
 refine T.z02 (fun k:Nat=>⟨[(0,rsA s),(1,lkA c),(2,.ptr 0 0),(3,.ptr 1 0),(4,.ptr 2 0),(5,.own 3),(6,.int k)],[(3,.row 172 4 (((s.locks.take k).filter (z4W c)).map lkC)),(2,.box 130 [.int 0,.int 0,.p (.val (.slice none 0 0)),.p (.val (.slice none 0 0)),.p (.val (.slice none 0 0)),.p (.val (.slice none 0 0)),.int 0,.int 0,.int 0]),(1,.box 172 ((lkC c).map .p)),(0,.box 130 ((rsC s).map .p))],48,4⟩) (fun k=>k≤s.locks.length) (fun k=>s.locks.length-k) 0 (Nat.zero_le _) ((zi.z3p _ 5 172 4 (show 5<48 by decide) rfl).trans (by refine zi.of' rfl ?_;simp only [wks,reduceIte,Nat.reduceEqDiff,ASt.okB,AV.okB,Nat.reduceLT,implies_true,ASt.add,z07,Int.natCast_zero,rsA,rsC,lkC,lkA,yl,List.take_zero,List.filter_nil])) ?_
 ·rintro k hk KL hKL
  simp only [rsA,rsC,yl,lkC,lkA]
  have hln:=z5v s.locks k (z4W c)
  have hmx:((s.locks.take k).filter (z4W c)).length+1≤maxLen:=by unfold maxLen;omega
  have hmy:(((s.locks.take k).filter (z4W c)).length+1)*32≤140737488355328:=by omega
  by_cases hlt:k<s.locks.length
  ·obtain ⟨x,hx⟩:=qA hlt
   have hd:decide ((k:Int)<(s.locks.length:Int))=true:=by simpa using hlt
   have hyes:z4W c x=true → ∀ s',zi s' _→KL s':=fun h s' hw=>hKL s' (k+1) (by rw [z7M hx h,List.map_append];exact hw) (by omega) (by omega)
   have hno:z4W c x=false → ∀ s',zi s' _→KL s':=fun h s' hw=>hKL s' (k+1) (by rw [filt_no hx h];exact hw) (by omega) (by omega)
   repeat' (first|refine T.zk fun K hK=>?_|apply T.block|(refine T.reg (by kernel_rfl) fun K' hK'=>?_;simp only [bz];(with_reducible repeat' (first|(apply WL.fin;apply hK';clear hK' K')|(refine WL.step fun K2 hK2=>?_;simp only [simprocAttr,implies_true,amz,zf,tys,hx,hd,lkC];repeat' (first|(apply hK2;clear hK2 K2)|apply And.intro|intro hb)))))|apply T.skip|apply T.exit|refine T.zh rfl ?_|refine T.zg rfl ?_|refine T.cond rfl (fun hc=>?_) (fun hc=>?_)|apply T.ret|simp only [ze,z8,reduceIte,Nat.reduceEqDiff]|((repeat ((fail_if_success apply hK);clear hK K));apply hK;clear hK K))
   refine T.drw 20 (by kernel_rfl) (by kernel_rfl) fun K' hK'=>?_;simp only [yl];(repeat' (first|(with_reducible refine WL.fin ?_;apply hK';clear hK' K')|(with_reducible refine WD.fin ?_)|((with_reducible first|refine WL.step fun K2 hK2=>?_|refine WD.step fun K2 hK2=>?_);simp only [simprocAttr,implies_true,amz,zf,tys,hx,hd,lkC];(repeat' with_reducible (first|(apply hK2;clear hK2 K2)|apply And.intro|intro hb)))));all_goals ((try simp only [ze,z8,reduceIte,Nat.reduceEqDiff]);(try ((repeat ((fail_if_success apply hK);clear hK K));apply hK;clear hK K)))
   all_goals repeat' (first|refine T.zk fun K hK=>?_|apply T.block|(refine T.reg (by kernel_rfl) fun K' hK'=>?_;simp only [bz];(with_reducible repeat' (first|(apply WL.fin;apply hK';clear hK' K')|(refine WL.step fun K2 hK2=>?_;simp only [simprocAttr,implies_true,amz,zf,tys,hx,hd,lkC,hmx,hmy,ml_1];repeat' (first|(apply hK2;clear hK2 K2)|apply And.intro|intro hb)))))|apply T.skip|apply T.exit|refine T.zh rfl ?_|refine T.zg rfl ?_|refine T.cond rfl (fun hc=>?_) (fun hc=>?_)|apply T.ret|simp only [ze,z8,reduceIte,Nat.reduceEqDiff]|((repeat ((fail_if_success apply hK);clear hK K));apply hK;clear hK K))
   all_goals first
    | (refine hyes ?_ _ ?_;(focus (simp [z4W, *];done));refine zi.of' rfl ?_;simp only [wks,reduceIte,Nat.reduceEqDiff,ASt.okB,AV.okB,Nat.reduceLT,implies_true,zx (show k<1152921504606846976 by omega),rsA,rsC,lkC,lkA,yl];done)
    | (refine hno ?_ _ ?_;(focus (simp [z4W, *];done));refine zi.of' rfl ?_;simp only [wks,reduceIte,Nat.reduceEqDiff,ASt.okB,AV.okB,Nat.reduceLT,implies_true,zx (show k<1152921504606846976 by omega),rsA,rsC,lkC,lkA,yl];done)
  ·have hd:decide ((k:Int)<(s.locks.length:Int))=false:=by simpa using hlt
   repeat' (first|refine T.zk fun K hK=>?_|apply T.block|(refine T.reg (by kernel_rfl) fun K' hK'=>?_;simp only [bz];(with_reducible repeat' (first|(apply WL.fin;apply hK';clear hK' K')|(refine WL.step fun K2 hK2=>?_;simp only [simprocAttr,implies_true,amz,zf,tys,hd,lkC,hmx,hmy,ml_1];repeat' (first|(apply hK2;clear hK2 K2)|apply And.intro|intro hb)))))|apply T.skip|apply T.exit|refine T.zh rfl ?_|refine T.zg rfl ?_|refine T.cond rfl (fun hc=>?_) (fun hc=>?_)|apply T.ret|simp only [ze,z8,reduceIte,Nat.reduceEqDiff]|((repeat ((fail_if_success apply hK);clear hK K));apply hK;clear hK K))
   refine zP.retW (.inr rfl) Tryz.results95 (zi.frz _ 3) ?_;simp only [zI,zu,zw,ASt.frz,ASt.subst,AO.z2j,AO.z2X,AO.z2T,AO.z2W,AO.z1h,AV.z6N,AV.z2S,AV.z2V,AV.z1M,AV.z2U,AV.z1L,AV.z1K,AV.z1J,AV.z3s,AV.z1N,List.filter_cons,List.filter_nil,bne_self_eq_false,Nat.reduceBneDiff,Nat.reduceEqDiff,Bool.false_eq_true,simprocAttr,implies_true,amz,zf,tys]
   rw [List.take_of_length_le (by omega)]
   simp [setL,lkC]
def rs0:Rs:=⟨0,1,[],[],[],[],0,0,0⟩
def sent1 (c:Cn):Cn := { c with sent:=IntKind.i64.wrap (c.sent+1) }
def recv1 (c:Cn):Cn := { c with recv:=IntKind.i64.wrap (c.recv+1) }
def z1B (s:Rs) (e:Ev):Rs:=if e.kind==15 then setC s (sent1 (z0s e.obj e.n s.chans)) else if e.kind==17 then setC s (recv1 (z0s e.obj e.n s.chans)) else s
theorem z3v (s:Rs) (e:Ev) (hl:s.chans.length≤1000000):zt Tryz.prog 90 [rsA s,evA e] (rsA (z1B s e)):=by
 simp only [rsA,rsC,yl,evA,evC]
 refine zt.of Tryz.func90 rfl 30 rfl (by decide) (by simp [AV.okB]) ?_
 repeat' (first|refine T.zk fun K hK=>?_|apply T.block|(refine T.reg (by kernel_rfl) fun K' hK'=>?_;simp only [bz];(repeat' (first|(with_reducible refine WL.fin ?_;apply hK';clear hK' K')|((with_reducible refine WL.step fun K2 hK2=>?_);simp only [simprocAttr,implies_true,amz,zf,tys,cnA,cnC,rsA,rsC];(repeat' (first|with_reducible (first|(apply hK2;clear hK2 K2)|apply And.intro|intro hb)|((with_reducible first|apply zl|apply zn);case h=>exact CallV.plain (Ent.of Tryz.func91 (by kernel_rfl) rfl) (chan_ok s e.obj e.n hl) (by simp [AV.okB]))|((with_reducible first|apply zl|apply zn);case h=>exact CallV.plain (Ent.of Tryz.func93 (by kernel_rfl) rfl) (z7u s (sent1 (z0s e.obj e.n s.chans)) hl) (by simp [AV.okB]))|((with_reducible first|apply zl|apply zn);case h=>exact CallV.plain (Ent.of Tryz.func93 (by kernel_rfl) rfl) (z7u s (recv1 (z0s e.obj e.n s.chans)) hl) (by simp [AV.okB]))))))))|apply T.skip|apply T.exit|refine T.zh rfl ?_|refine T.zg rfl ?_|refine T.cond rfl (fun hc=>?_) (fun hc=>?_)|apply T.ret|simp only [ze,z8,reduceIte,Nat.reduceEqDiff]|((repeat ((fail_if_success apply hK);clear hK K));apply hK;clear hK K))
 all_goals (refine zP.ret (.inr rfl) Tryz.results90 ?_;simp only [zI,zu,zw,simprocAttr,implies_true,amz,zf,tys,];simp [z1B, *])
def openB (s:Rs) (e:Ev) (nx:List Wt):Rs := { s with next:=nx,obj:=e.obj,k:=e.k,n:=e.n }
def z3I (s:Rs) (e:Ev) (nx:List Wt):Rs:=z1B (openB s e nx) e
theorem z3V (s:Rs) (e:Ev) (nx:List Wt) (hl:s.chans.length≤1000000):zt Tryz.prog 92 [rsA s,evA e,.p (.seq 3 (nx.map wtC))] (.tup [rsA (z3I s e nx),.bool true]):=by
 simp only [rsA,rsC,yl,evA,evC]
 refine zt.of Tryz.func92 rfl 22 rfl (by decide) (by simp [AV.okB]) ?_
 repeat' (first|refine T.zk fun K hK=>?_|apply T.block|(refine T.reg (by kernel_rfl) fun K' hK'=>?_;simp only [bz];(with_reducible repeat' (first|(apply WL.fin;apply hK';clear hK' K')|(refine WL.step fun K2 hK2=>?_;simp only [simprocAttr,implies_true,amz,zf,tys];repeat' (first|(apply hK2;clear hK2 K2)|apply And.intro|intro hb)))))|apply T.skip|apply T.exit|refine T.zh rfl ?_|refine T.zg rfl ?_|refine T.cond rfl (fun hc=>?_) (fun hc=>?_)|apply T.ret|simp only [ze,z8,reduceIte,Nat.reduceEqDiff]|((repeat ((fail_if_success apply hK);clear hK K));apply hK;clear hK K))
 refine T.comm [c0,some (0,1),some (0,1),some (0,2),some (0,2),some (0,3),some (0,3),c0,none,some (1,1),none,some (2,2),none,some (3,3),none] (by kernel_rfl) (by kernel_rfl) fun K' hK'=>?_;simp only [yl,List.zip_cons_cons,List.zip_nil_left];(repeat' (first|(with_reducible refine WC.fin ?_;apply hK';clear hK' K')|((first|(with_reducible refine WC.z0O fun K2 hK2=>?_)|(with_reducible refine WC.stepW fun K2 hK2=>?_));simp only [simprocAttr,implies_true,amz,zf,WCg,WCv,WOw,allP,dav,Chk,List.filter_cons,List.filter_nil,bne_self_eq_false,Nat.reduceBneDiff,Bool.false_eq_true,tys];(repeat' (first|(with_reducible refine hK2 _ _ ?_;clear hK2 K2)|with_reducible (first|(apply hK2;clear hK2 K2)|apply And.intro|intro hb)|(with_reducible rfl)|((with_reducible show @Eq ASt _ _);rfl) )))));all_goals ((try simp only [ze,z8,reduceIte,Nat.reduceEqDiff]);(try ((repeat ((fail_if_success apply hK);clear hK K));apply hK;clear hK K)))
 repeat' (first|refine T.zk fun K hK=>?_|apply T.block|(refine T.reg (by kernel_rfl) fun K' hK'=>?_;simp only [bz];(repeat' (first|(with_reducible refine WL.fin ?_;apply hK';clear hK' K')|((with_reducible refine WL.step fun K2 hK2=>?_);simp only [simprocAttr,implies_true,amz,zf,tys,rsA,rsC];(repeat' (first|with_reducible (first|(apply hK2;clear hK2 K2)|apply And.intro|intro hb)|((with_reducible first|apply zl|apply zn);case h=>exact CallV.plain (Ent.of Tryz.func90 (by kernel_rfl) rfl) (z3v (openB s e nx) e hl) (by simp [AV.okB]))))))))|apply T.skip|apply T.exit|refine T.zh rfl ?_|refine T.zg rfl ?_|refine T.cond rfl (fun hc=>?_) (fun hc=>?_)|apply T.ret|simp only [ze,z8,reduceIte,Nat.reduceEqDiff]|((repeat ((fail_if_success apply hK);clear hK K));apply hK;clear hK K))
 all_goals (refine zP.ret (.inr rfl) Tryz.results92 ?_;simp only [zI,zu,zw,simprocAttr,implies_true,amz,zf,tys,];simp [z3I, *])
def z2a (k:Int):Bool := !(decide (k<1)||decide (20<k))
def nameL:List (List PV) := [[.val (.string ⟨#[]⟩)],[.val (.string ⟨#[114,101,97,100]⟩)],[.val (.string ⟨#[119,114,105,116,101]⟩)],[.val (.string ⟨#[97,116,111,109,105,99,45,114,101,97,100]⟩)],[.val (.string ⟨#[97,116,111,109,105,99,45,119,114,105,116,101]⟩)],[.val (.string ⟨#[97,116,111,109,105,99,45,98,111,116,104]⟩)],[.val (.string ⟨#[108,111,99,107]⟩)],[.val (.string ⟨#[117,110,108,111,99,107]⟩)],[.val (.string ⟨#[114,108,111,99,107]⟩)],[.val (.string ⟨#[114,117,110,108,111,99,107]⟩)],[.val (.string ⟨#[100,111,110,101]⟩)],[.val (.string ⟨#[119,97,105,116]⟩)],[.val (.string ⟨#[111,110,99,101,45,101,110,100]⟩)],[.val (.string ⟨#[111,110,99,101,45,115,101,101,110]⟩)],[.val (.string ⟨#[103,111]⟩)],[.val (.string ⟨#[115,101,110,100,45,115,116,97,114,116]⟩)],[.val (.string ⟨#[115,101,110,100,45,101,110,100]⟩)],[.val (.string ⟨#[114,101,99,118,45,115,116,97,114,116]⟩)],[.val (.string ⟨#[114,101,99,118,45,101,110,100]⟩)],[.val (.string ⟨#[99,108,111,115,101]⟩)],[.val (.string ⟨#[114,101,99,118,45,99,108,111,115,101,100]⟩)]]
def z5G (k:Int):ByteArray:=if z2a k=true then (match nameL[k.toNat]? with|some [.val (.string b)]=>b|_=>⟨#[]⟩) else ⟨#[]⟩
theorem name_ok (k:Int):zt Tryz.prog 89 [.int k] (.p (.val (.string (z5G k)))):=by
 refine zt.of Tryz.func89 rfl 15 rfl (by decide) (by simp [AV.okB]) ?_
 by_cases hk:z2a k=true
 ·have h1:decide (k<1)=false:=by simp_all [z2a]
  have h2:decide (20<k)=false:=by simp_all [z2a]
  obtain ⟨n,rfl⟩ : ∃ n:Nat,k=n:=⟨k.toNat,by simp at h1;omega⟩
  have hn:n<21:=by simp at h2;omega
  have hx : ∃ b,nameL[n]? = some [.val (.string b)]∧z5G n=b:=by
   unfold z5G
   rw [hk]
   revert hn
   clear h1 h2 hk
   intro hn
   rcases n with _|_|_|_|_|_|_|_|_|_|_|_|_|_|_|_|_|_|_|_|_|n <;> first|exact ⟨_,rfl,rfl⟩|omega
  obtain ⟨b,hb1,hb2⟩:=hx
  rw [hb2]
  unfold nameL at hb1
  repeat' (first|refine T.zk fun K hK=>?_|apply T.block|(refine T.reg (by kernel_rfl) fun K' hK'=>?_;simp only [bz];(with_reducible repeat' (first|(apply WL.fin;apply hK';clear hK' K')|(refine WL.step fun K2 hK2=>?_;simp only [simprocAttr,implies_true,amz,zf,tys,ml_21,h1,h2,hb1,Nat.reduceDiv];repeat' (first|(apply hK2;clear hK2 K2)|apply And.intro|intro hb)))))|apply T.skip|apply T.exit|refine T.zh rfl ?_|refine T.zg rfl ?_|refine T.cond rfl (fun hc=>?_) (fun hc=>?_)|apply T.ret|simp only [ze,z8,reduceIte,Nat.reduceEqDiff]|((repeat ((fail_if_success apply hK);clear hK K));apply hK;clear hK K))
  all_goals (refine zP.ret (.inr rfl) Tryz.results89 ?_;simp only [zI,zu,zw,simprocAttr,implies_true,amz,zf,tys,])
 ·have hd:(decide (k<1)||decide (20<k))=true:=by simp [z2a] at hk;simp;omega
  have hn:z5G k=⟨#[]⟩:=by simp [z5G,hk]
  rw [hn]
  repeat' (first|refine T.zk fun K hK=>?_|apply T.block|(refine T.reg (by kernel_rfl) fun K' hK'=>?_;simp only [bz];(with_reducible repeat' (first|(apply WL.fin;apply hK';clear hK' K')|(refine WL.step fun K2 hK2=>?_;simp only [simprocAttr,implies_true,amz,zf,tys,ml_21,Nat.reduceDiv];repeat' (first|(apply hK2;clear hK2 K2)|apply And.intro|intro hb)))))|apply T.skip|apply T.exit|refine T.zh rfl ?_|refine T.zg rfl ?_|refine T.cond rfl (fun hc=>?_) (fun hc=>?_)|apply T.ret|simp only [ze,z8,reduceIte,Nat.reduceEqDiff]|((repeat ((fail_if_success apply hK);clear hK K));apply hK;clear hK K))
  all_goals first
   | ((refine zP.ret (.inr rfl) Tryz.results89 ?_;simp only [zI,zu,zw,simprocAttr,implies_true,amz,zf,tys,]);done)
   | (exfalso;simp_all;done)
theorem z5f (k:Int):((z5G k).toList==(ByteArray.mk #[]).toList) = !z2a k:=by
 by_cases hk:z2a k=true
 ·have h1:decide (k<1)=false:=by simp_all [z2a]
  have h2:decide (20<k)=false:=by simp_all [z2a]
  obtain ⟨n,rfl⟩ : ∃ n:Nat,k=n:=⟨k.toNat,by simp at h1;omega⟩
  have hn:n<21:=by simp at h2;omega
  have h0 : 1≤n:=by simp at h1;omega
  rw [hk]
  unfold z5G
  rw [hk]
  clear h1 h2 hk
  rcases n with _|_|_|_|_|_|_|_|_|_|_|_|_|_|_|_|_|_|_|_|_|n <;> first|(exfalso;omega)|(rw [ByteArray.toList_eq,ByteArray.toList_eq];rfl)
 ·have hn:z5G k=⟨#[]⟩:=by simp [z5G,hk]
  rw [hn]
  simp [hk]
def z5w (e:Ev):List Int := [e.obj,e.off,e.k,e.n,e.fn,e.pc,e.st]
def okF (x:Int):Bool := !(decide (x<0)||decide (2147483647<x))
def kindB (e:Ev):Bool :=
 if (e.kind==14)=true then e.obj==0&&e.off==0&&e.n==0&&decide (0<e.k)&&decide (e.k<8)
 else if (e.kind==15||e.kind==16||e.kind==17||e.kind==18)=true then e.off==0&&decide (e.n≤64)
 else if (e.kind==19||e.kind==20)=true then e.off==0&&e.k==0&&decide (e.n≤64)
 else e.k==0&&e.n==0
def z6V (e:Ev):Bool := !(decide (e.g<0)||decide (8≤e.g) || !z2a e.kind)
def z3Q (e:Ev):Bool:=z6V e&&((z5w e).all okF&&kindB e)
theorem z4Q (e:Ev):zt Tryz.prog 70 [evA e] (.bool (z3Q e)):=by
 simp only [evA,evC,yl]
 refine zt.of Tryz.func70 rfl 116 rfl (by decide) (by simp [AV.okB]) ?_
 by_cases hh:z6V e=true
 ·have h1:decide (e.g<0)=false:=by simp_all [z6V]
  have h2:decide (8≤e.g)=false:=by simp_all [z6V]
  have h3:z2a e.kind=true:=by simp_all [z6V]
  repeat' (first|refine T.zk fun K hK=>?_|apply T.block|(refine T.reg (by kernel_rfl) fun K' hK'=>?_;simp only [bz];(repeat' (first|(with_reducible refine WL.fin ?_;apply hK';clear hK' K')|((with_reducible refine WL.step fun K2 hK2=>?_);simp only [simprocAttr,implies_true,amz,zf,tys,ml_7,h1,h2,h3,z5f,Nat.reduceDiv];(repeat' (first|with_reducible (first|(apply hK2;clear hK2 K2)|apply And.intro|intro hb)|((with_reducible first|apply zl|apply zn);case h=>exact CallV.plain (Ent.of Tryz.func89 (by kernel_rfl) rfl) (name_ok _) (by simp [AV.okB]))))))))|apply T.skip|apply T.exit|refine T.zh rfl ?_|refine T.zg rfl ?_|refine T.cond rfl (fun hc=>?_) (fun hc=>?_)|apply T.ret|simp only [ze,z8,reduceIte,Nat.reduceEqDiff]|((repeat ((fail_if_success apply hK);clear hK K));apply hK;clear hK K))
  refine T.z02 (fun k:Nat=>⟨[(0,evA e),(1,.ptr 0 0),(2,.bool false),(3,.p (.seq 1 ((z5w e).map fun x => [pI x]))),(4,.int k)],[(0,.box 33 ((evC e).map .p))],116,1⟩) (fun k=>k≤7∧(z5w e).all okF=((z5w e).drop k).all okF) (fun k => 7-k) 0 ⟨Nat.zero_le _,rfl⟩ (by refine zi.of' rfl ?_;simp only [wks,reduceIte,Nat.reduceEqDiff,ASt.okB,AV.okB,Nat.reduceLT,implies_true,Int.natCast_zero,evA,evC,z5w,pI,yl]) ?_
  rintro k ⟨hk,hn⟩ KL hKL
  simp only [evA,evC,yl]
  have hlen:(z5w e).length=7:=rfl
  by_cases hlt:k<(z5w e).length
  ·obtain ⟨x,hx⟩:=qA hlt
   have hd:decide ((k:Int)<((z5w e).length:Int))=true:=by simpa using hlt
   rw [drop_at hx,List.all_cons] at hn
   have hcont:okF x=true → ∀ s',zi s' _→KL s':=fun h s' hw=>hKL s' (k+1) hw ⟨by omega,by rw [hn,h];rfl⟩ (by omega)
   have hbad:okF x=false→z3Q e=false:=fun h=>by simp [z3Q,hn,h]
   repeat' (first|refine T.zk fun K hK=>?_|apply T.block|(refine T.reg (by kernel_rfl) fun K' hK'=>?_;simp only [bz];(with_reducible repeat' (first|(apply WL.fin;apply hK';clear hK' K')|(refine WL.step fun K2 hK2=>?_;simp only [simprocAttr,implies_true,amz,zf,tys,hx,hd];repeat' (first|(apply hK2;clear hK2 K2)|apply And.intro|intro hb)))))|apply T.skip|apply T.exit|refine T.zh rfl ?_|refine T.zg rfl ?_|refine T.cond rfl (fun hc=>?_) (fun hc=>?_)|apply T.ret|simp only [ze,z8,reduceIte,Nat.reduceEqDiff]|((repeat ((fail_if_success apply hK);clear hK K));apply hK;clear hK K))
   all_goals first
    | ((refine zP.ret (.inr rfl) Tryz.results70 ?_;simp only [zI,zu,zw,simprocAttr,implies_true,amz,zf,tys,]);rw [hbad];(focus (simp [okF, *];done)))
    | (refine hcont ?_ _ ?_;(focus (simp_all [okF];done));refine zi.of' rfl ?_;simp only [wks,reduceIte,Nat.reduceEqDiff,ASt.okB,AV.okB,Nat.reduceLT,implies_true,zx (show k<1152921504606846976 by omega),evA,evC,pI,yl];done)
  ·have hd:decide ((k:Int)<((z5w e).length:Int))=false:=by simpa using hlt
   rw [z3e hlt,List.all_nil] at hn
   have hv:z3Q e=kindB e:=by simp [z3Q,hh,hn]
   rw [hv]
   repeat' (first|refine T.zk fun K hK=>?_|apply T.block|(refine T.reg (by kernel_rfl) fun K' hK'=>?_;simp only [bz];(with_reducible repeat' (first|(apply WL.fin;apply hK';clear hK' K')|(refine WL.step fun K2 hK2=>?_;simp only [simprocAttr,implies_true,amz,zf,tys,hd];repeat' (first|(apply hK2;clear hK2 K2)|apply And.intro|intro hb)))))|apply T.skip|apply T.exit|refine T.zh rfl ?_|refine T.zg rfl ?_|refine T.cond rfl (fun hc=>?_) (fun hc=>?_)|apply T.ret|simp only [ze,z8,reduceIte,Nat.reduceEqDiff]|((repeat ((fail_if_success apply hK);clear hK K));apply hK;clear hK K))
   all_goals first
    | ((refine zP.ret (.inr rfl) Tryz.results70 ?_;simp only [zI,zu,zw,simprocAttr,implies_true,amz,zf,tys,]);simp [kindB, *];done)
    | (exfalso;simp_all;done)
 ·have hh' : z6V e=false:=by simpa using hh
  have hv:z3Q e=false:=by simp [z3Q,hh']
  rw [hv]
  repeat' (first|refine T.zk fun K hK=>?_|apply T.block|(refine T.reg (by kernel_rfl) fun K' hK'=>?_;simp only [bz];(repeat' (first|(with_reducible refine WL.fin ?_;apply hK';clear hK' K')|((with_reducible refine WL.step fun K2 hK2=>?_);simp only [simprocAttr,implies_true,amz,zf,tys,z5f];(repeat' (first|with_reducible (first|(apply hK2;clear hK2 K2)|apply And.intro|intro hb)|((with_reducible first|apply zl|apply zn);case h=>exact CallV.plain (Ent.of Tryz.func89 (by kernel_rfl) rfl) (name_ok _) (by simp [AV.okB]))))))))|apply T.skip|apply T.exit|refine T.zh rfl ?_|refine T.zg rfl ?_|refine T.cond rfl (fun hc=>?_) (fun hc=>?_)|apply T.ret|simp only [ze,z8,reduceIte,Nat.reduceEqDiff]|((repeat ((fail_if_success apply hK);clear hK K));apply hK;clear hK K))
  all_goals first
   | ((refine zP.ret (.inr rfl) Tryz.results70 ?_;simp only [zI,zu,zw,simprocAttr,implies_true,amz,zf,tys,]);done)
   | (exfalso;simp_all [z6V];done)
def z4P (s:Rs) (e:Ev):Rs × Bool :=
 if ((z0s e.obj e.n s.chans).n != e.n)=true then (s,false)
 else if (e.kind==15)=true then
  if (e.k != (z0s e.obj e.n s.chans).sent||(z0s e.obj e.n s.chans).closed)=true then (s,false)
  else if (decide (0<(z0s e.obj e.n s.chans).n)&&decide (IntKind.i64.wrap ((z0s e.obj e.n s.chans).sent-(z0s e.obj e.n s.chans).recv)<(z0s e.obj e.n s.chans).n))=true then (z3I s e [⟨16,e.g,0⟩],true)
  else if ((z0s e.obj e.n s.chans).n==0&&decide (1<s.gor))=true then (z3I s e [⟨17,-1,e.g⟩,⟨18,-1,0⟩,⟨16,e.g,0⟩],true)
  else (s,false)
 else if (e.kind==17)=true then
  if (e.k != (z0s e.obj e.n s.chans).recv)=true then (s,false)
  else if decide ((z0s e.obj e.n s.chans).recv<(z0s e.obj e.n s.chans).sent)=true then (z3I s e [⟨18,e.g,0⟩],true)
  else if (!(z0s e.obj e.n s.chans).closed&&decide (1<s.gor))=true then (z3I s e [⟨15,-1,e.g⟩,⟨18,e.g,0⟩,⟨16,-1,0⟩],true)
  else (s,false)
 else if (e.kind==19)=true then
  if (!(z0s e.obj e.n s.chans).closed)=true then (setC s { z0s e.obj e.n s.chans with closed:=true },true) else (s,false)
 else if (e.kind==20)=true then (s,(z0s e.obj e.n s.chans).closed&&(z0s e.obj e.n s.chans).sent==(z0s e.obj e.n s.chans).recv)
 else (s,false)
theorem trans_ok (s:Rs) (e:Ev) (hl:s.chans.length≤1000000):zt Tryz.prog 73 [rsA s,evA e] (.tup [rsA (z4P s e).1,.bool (z4P s e).2]):=by
 simp only [rsA,rsC,yl,evA,evC]
 refine zt.of Tryz.func73 rfl 141 rfl (by decide) (by simp [AV.okB]) ?_
 repeat' (first|refine T.zk fun K hK=>?_|apply T.block|(refine T.reg (by kernel_rfl) fun K' hK'=>?_;simp only [bz];(repeat' (first|(with_reducible refine WL.fin ?_;apply hK';clear hK' K')|((with_reducible refine WL.step fun K2 hK2=>?_);simp only [simprocAttr,implies_true,amz,zf,tys,cnA,cnC,rsA,rsC,ml_1,ml_3];(repeat' (first|with_reducible (first|(apply hK2;clear hK2 K2)|apply And.intro|intro hb)|((with_reducible first|apply zl|apply zn);case h=>exact CallV.plain (Ent.of Tryz.func91 (by kernel_rfl) rfl) (chan_ok s e.obj e.n hl) (by simp [AV.okB]))|((with_reducible first|apply zl|apply zn);case h=>exact CallV.plain (Ent.of Tryz.func93 (by kernel_rfl) rfl) (z7u s { z0s e.obj e.n s.chans with closed:=true } hl) (by simp [AV.okB]))|((with_reducible first|apply zl|apply zn);case h=>exact CallV.plain (Ent.of Tryz.func92 (by kernel_rfl) rfl) (z3V s e [⟨16,e.g,0⟩] hl) (by simp [AV.okB]))|((with_reducible first|apply zl|apply zn);case h=>exact CallV.plain (Ent.of Tryz.func92 (by kernel_rfl) rfl) (z3V s e [⟨17,-1,e.g⟩,⟨18,-1,0⟩,⟨16,e.g,0⟩] hl) (by simp [AV.okB]))|((with_reducible first|apply zl|apply zn);case h=>exact CallV.plain (Ent.of Tryz.func92 (by kernel_rfl) rfl) (z3V s e [⟨18,e.g,0⟩] hl) (by simp [AV.okB]))|((with_reducible first|apply zl|apply zn);case h=>exact CallV.plain (Ent.of Tryz.func92 (by kernel_rfl) rfl) (z3V s e [⟨15,-1,e.g⟩,⟨18,e.g,0⟩,⟨16,-1,0⟩] hl) (by simp [AV.okB]))))))))|apply T.skip|apply T.exit|refine T.zh rfl ?_|refine T.zg rfl ?_|refine T.cond rfl (fun hc=>?_) (fun hc=>?_)|apply T.ret|simp only [ze,z8,reduceIte,Nat.reduceEqDiff]|((repeat ((fail_if_success apply hK);clear hK K));apply hK;clear hK K))
 all_goals (try refine T.comm [c0,some (0,1),some (0,1),c0,some (0,1),some (0,1),some (0,1),some (0,1),some (0,1),some (0,1),none,some (1,1)] (by kernel_rfl) (by kernel_rfl) fun K' hK'=>?_;simp only [yl,List.zip_cons_cons,List.zip_nil_left];(repeat' (first|(with_reducible refine WC.fin ?_;apply hK';clear hK' K')|((first|(with_reducible refine WC.z0O fun K2 hK2=>?_)|(with_reducible refine WC.stepW fun K2 hK2=>?_));simp only [simprocAttr,implies_true,amz,zf,WCg,WCv,WOw,allP,dav,Chk,List.filter_cons,List.filter_nil,bne_self_eq_false,Nat.reduceBneDiff,Bool.false_eq_true,tys,cnA,cnC,rsA,rsC];(repeat' (first|(with_reducible refine hK2 _ _ ?_;clear hK2 K2)|with_reducible (first|(apply hK2;clear hK2 K2)|apply And.intro|intro hb)|(with_reducible rfl)|((with_reducible show @Eq ASt _ _);rfl) )))));all_goals ((try simp only [ze,z8,reduceIte,Nat.reduceEqDiff]);(try ((repeat ((fail_if_success apply hK);clear hK K));apply hK;clear hK K))))
 all_goals repeat' (first|refine T.zk fun K hK=>?_|apply T.block|(refine T.reg (by kernel_rfl) fun K' hK'=>?_;simp only [bz];(with_reducible repeat' (first|(apply WL.fin;apply hK';clear hK' K')|(refine WL.step fun K2 hK2=>?_;simp only [simprocAttr,implies_true,amz,zf,tys];repeat' (first|(apply hK2;clear hK2 K2)|apply And.intro|intro hb)))))|apply T.skip|apply T.exit|refine T.zh rfl ?_|refine T.zg rfl ?_|refine T.cond rfl (fun hc=>?_) (fun hc=>?_)|apply T.ret|simp only [ze,z8,reduceIte,Nat.reduceEqDiff]|((repeat ((fail_if_success apply hK);clear hK K));apply hK;clear hK K))
 all_goals (refine zP.ret (.inr rfl) Tryz.results73 ?_;simp only [zI,zu,zw,simprocAttr,implies_true,amz,zf,tys,];simp [z4P, *])
def badB (s:Rs) (e:Ev) (w:Wt):Bool:=e.kind != w.kind||e.obj != s.obj||e.k != s.k||e.n != s.n||(decide (0≤w.g)&&e.g != w.g)||(decide (w.g<0)&&e.g==w.not)
def fixW (e:Ev) (w x:Wt):Wt:=if (decide (w.g<0)&&decide (x.g<0))=true then { x with g:=e.g } else x
def z7k (s:Rs) (nx:List Wt):Rs := { s with next:=nx }
def z1b (s:Rs) (e:Ev) (w:Wt) (r:List Wt):Rs × Bool:=if badB s e w=true then (s,false) else (z1B (z7k s (r.map (fixW e w))) e,true)
theorem map_take {α β:Type} {l:List α} {k:Nat} {x : α} (f : α → β) (h:l[k]? = some x):(l.take (k+1)).map f=(l.take k).map f ++ [f x]:=by
 rw [List.take_add_one,h];simp
theorem group_bad (s:Rs) (e:Ev) (w:Wt) (r:List Wt) (hs:s.next=w :: r) (hbad:badB s e w=true):zt Tryz.prog 71 [rsA s,evA e] (.tup [rsA (z1b s e w r).1,.bool (z1b s e w r).2]):=by
 have hres:z1b s e w r=(s,false):=by simp [z1b,hbad]
 rw [hres]
 simp only [rsA,rsC,yl,evA,evC,hs]
 refine zt.of Tryz.func71 rfl 97 rfl (by decide) (by simp [AV.okB]) ?_
 repeat' (first|refine T.zk fun K hK=>?_|apply T.block|(refine T.reg (by kernel_rfl) fun K' hK'=>?_;simp only [bz];(with_reducible repeat' (first|(apply WL.fin;apply hK';clear hK' K')|(refine WL.step fun K2 hK2=>?_;simp only [simprocAttr,implies_true,amz,zf,tys,List.map_cons,wtC,List.getElem?_cons_zero,Int.toNat_zero,Int.reduceToNat];repeat' (first|(apply hK2;clear hK2 K2)|apply And.intro|intro hb)))))|apply T.skip|apply T.exit|refine T.zh rfl ?_|refine T.zg rfl ?_|refine T.cond rfl (fun hc=>?_) (fun hc=>?_)|apply T.ret|simp only [ze,z8,reduceIte,Nat.reduceEqDiff]|((repeat ((fail_if_success apply hK);clear hK K));apply hK;clear hK K))
 all_goals first
  | ((refine zP.ret (.inr rfl) Tryz.results71 ?_;simp only [zI,zu,zw,simprocAttr,implies_true,amz,zf,tys,wtC]);done)
  | (exfalso;simp_all [badB];done)
  | (exfalso;simp_all [badB];omega)
theorem z8F (s:Rs) (e:Ev) (w:Wt) (r:List Wt) (hs:s.next=w :: r) (hl:s.chans.length≤1000000) (hr:r.length≤1000) (hbad' : badB s e w=false):zt Tryz.prog 71 [rsA s,evA e] (.tup [rsA (z1b s e w r).1,.bool (z1b s e w r).2]):=by
 have hres:z1b s e w r=(z1B (z7k s (r.map (fixW e w))) e,true):=by simp [z1b,hbad']
 rw [hres]
 have hb2:=hbad'
 simp only [badB,Bool.or_eq_false_iff] at hb2
 obtain ⟨⟨⟨⟨⟨b1,b2⟩,b3⟩,b4⟩,b5⟩,b6⟩:=hb2
 simp only [rsA,rsC,yl,evA,evC]
 refine zt.of Tryz.func71 rfl 97 rfl (by decide) (by simp [AV.okB]) ?_
 have two:(decide (0≤w.g)=true∧(e.g != w.g)=false∧decide (w.g<0)=false)∨(decide (0≤w.g)=false∧decide (w.g<0)=true∧(e.g==w.not)=false):=by
  by_cases h0 : 0≤w.g
  ·left;simp_all
  ·right;simp_all
 rcases two with ⟨w1,w2,w3⟩|⟨w1,w3,w2⟩
 ·repeat' (first|refine T.zk fun K hK=>?_|apply T.block|(refine T.reg (by kernel_rfl) fun K' hK'=>?_;simp only [bz];(with_reducible repeat' (first|(apply WL.fin;apply hK';clear hK' K')|(refine WL.step fun K2 hK2=>?_;simp only [simprocAttr,implies_true,amz,zf,tys,hs,List.map_cons,wtC,List.getElem?_cons_zero,Int.toNat_zero,Int.reduceToNat,b1,b2,b3,b4,w1,w2,w3];repeat' (first|(apply hK2;clear hK2 K2)|apply And.intro|intro hb)))))|apply T.skip|apply T.exit|refine T.zh rfl ?_|refine T.zg rfl ?_|refine T.cond rfl (fun hc=>?_) (fun hc=>?_)|apply T.ret|simp only [ze,z8,reduceIte,Nat.reduceEqDiff]|((repeat ((fail_if_success apply hK);clear hK K));apply hK;clear hK K))
  refine T.z02 (fun k:Nat=>⟨[(0,rsA s),(1,evA e),(2,.ptr 0 0),(3,.ptr 1 0),(4,.ptr 2 0),(5,.bool false),(6,.ptr 3 0),(7,.own 4),(8,.int ((k+1:Nat):Int))],[(4,.row 164 3 (((r.take k).map (fixW e w)).map wtC)),(3,.box 164 ((wtC w).map .p)),(2,.box 130 [.int 0,.int 0,.p (.val (.slice none 0 0)),.p (.val (.slice none 0 0)),.p (.val (.slice none 0 0)),.p (.val (.slice none 0 0)),.int 0,.int 0,.int 0]),(1,.box 33 ((evC e).map .p)),(0,.box 130 ((rsC s).map .p))],97,5⟩) (fun k=>k≤r.length) (fun k=>r.length-k) 0 (Nat.zero_le _) ((zi.z3p _ 7 164 3 (show 7<97 by decide) rfl).trans (by refine zi.of' rfl ?_;simp only [wks,reduceIte,Nat.reduceEqDiff,ASt.okB,AV.okB,Nat.reduceLT,implies_true,ASt.add,z07,Int.natCast_zero,rsA,rsC,wtC,evA,evC,yl,List.take_zero,List.filter_nil,Nat.zero_add,Int.natCast_one,hs])) ?_
  rintro k hk KL hKL
  simp only [rsA,rsC,yl,wtC,evA,evC,hs]
  have hrk:(r.take k).length+1≤2000:=by simp;omega
  have hmx:(r.take k).length+1≤maxLen:=by unfold maxLen;omega
  have hmy:((r.take k).length+1)*24≤140737488355328:=by omega
  by_cases hlt:k<r.length
  ·obtain ⟨x,hx⟩:=qA hlt
   have hd:decide (((k+1:Nat):Int)<((r.length+1:Nat):Int))=true:=by simp;omega
   have hcont : ∀ s',zi s' _→KL s':=fun s' hw=>hKL s' (k+1) (by rw [map_take (fixW e w) hx,List.map_append];exact hw) (by omega) (by omega)
   repeat' (first|refine T.zk fun K hK=>?_|apply T.block|(refine T.reg (by kernel_rfl) fun K' hK'=>?_;simp only [bz];(with_reducible repeat' (first|(apply WL.fin;apply hK';clear hK' K')|(refine WL.step fun K2 hK2=>?_;simp only [simprocAttr,implies_true,amz,zf,tys,hx,hd,wtC,hs,List.map_cons,List.getElem?_cons_succ,List.length_cons,w3,hmx,hmy,ml_1];repeat' (first|(apply hK2;clear hK2 K2)|apply And.intro|intro hb)))))|apply T.skip|apply T.exit|refine T.zh rfl ?_|refine T.zg rfl ?_|refine T.cond rfl (fun hc=>?_) (fun hc=>?_)|apply T.ret|simp only [ze,z8,reduceIte,Nat.reduceEqDiff]|((repeat ((fail_if_success apply hK);clear hK K));apply hK;clear hK K))
   all_goals (refine hcont _ ?_;refine zi.of' rfl ?_;simp only [wks,reduceIte,Nat.reduceEqDiff,ASt.okB,AV.okB,Nat.reduceLT,implies_true,zx (show k+1<1152921504606846976 by omega),rsA,rsC,wtC,evA,evC,yl,hs,fixW,w3,Bool.false_and,Bool.true_and,Bool.false_eq_true,if_false,if_true, *])
  ·have hd:decide (((k+1:Nat):Int)<((r.length+1:Nat):Int))=false:=by simp;omega
   refine T.weak (zi.frz _ 4) ?_;simp only [ASt.frz,List.filter_cons,List.filter_nil,bne_self_eq_false,Nat.reduceBneDiff,Bool.false_eq_true,simprocAttr,implies_true,amz,zf,]
   have ht:r.take k=r:=List.take_of_length_le (by omega)
   rw [ht]
   repeat' (first|refine T.zk fun K hK=>?_|apply T.block|(refine T.reg (by kernel_rfl) fun K' hK'=>?_;simp only [bz];(repeat' (first|(with_reducible refine WL.fin ?_;apply hK';clear hK' K')|((with_reducible refine WL.step fun K2 hK2=>?_);simp only [simprocAttr,implies_true,amz,zf,tys,hd,wtC,List.map_cons,List.length_cons,rsA,rsC];(repeat' (first|with_reducible (first|(apply hK2;clear hK2 K2)|apply And.intro|intro hb)|((with_reducible first|apply zl|apply zn);case h=>exact CallV.plain (Ent.of Tryz.func90 (by kernel_rfl) rfl) (z3v (z7k s (r.map (fixW e w))) e hl) (by simp [AV.okB]))))))))|apply T.skip|apply T.exit|refine T.zh rfl ?_|refine T.zg rfl ?_|refine T.cond rfl (fun hc=>?_) (fun hc=>?_)|apply T.ret|simp only [ze,z8,reduceIte,Nat.reduceEqDiff]|((repeat ((fail_if_success apply hK);clear hK K));apply hK;clear hK K))
   all_goals (refine zP.ret (.inr rfl) Tryz.results71 ?_;simp only [zI,zu,zw,simprocAttr,implies_true,amz,zf,tys,])
 ·repeat' (first|refine T.zk fun K hK=>?_|apply T.block|(refine T.reg (by kernel_rfl) fun K' hK'=>?_;simp only [bz];(with_reducible repeat' (first|(apply WL.fin;apply hK';clear hK' K')|(refine WL.step fun K2 hK2=>?_;simp only [simprocAttr,implies_true,amz,zf,tys,hs,List.map_cons,wtC,List.getElem?_cons_zero,Int.toNat_zero,Int.reduceToNat,b1,b2,b3,b4,w1,w2,w3];repeat' (first|(apply hK2;clear hK2 K2)|apply And.intro|intro hb)))))|apply T.skip|apply T.exit|refine T.zh rfl ?_|refine T.zg rfl ?_|refine T.cond rfl (fun hc=>?_) (fun hc=>?_)|apply T.ret|simp only [ze,z8,reduceIte,Nat.reduceEqDiff]|((repeat ((fail_if_success apply hK);clear hK K));apply hK;clear hK K))
  refine T.z02 (fun k:Nat=>⟨[(0,rsA s),(1,evA e),(2,.ptr 0 0),(3,.ptr 1 0),(4,.ptr 2 0),(5,.bool false),(6,.ptr 3 0),(7,.own 4),(8,.int ((k+1:Nat):Int))],[(4,.row 164 3 (((r.take k).map (fixW e w)).map wtC)),(3,.box 164 ((wtC w).map .p)),(2,.box 130 [.int 0,.int 0,.p (.val (.slice none 0 0)),.p (.val (.slice none 0 0)),.p (.val (.slice none 0 0)),.p (.val (.slice none 0 0)),.int 0,.int 0,.int 0]),(1,.box 33 ((evC e).map .p)),(0,.box 130 ((rsC s).map .p))],97,5⟩) (fun k=>k≤r.length) (fun k=>r.length-k) 0 (Nat.zero_le _) ((zi.z3p _ 7 164 3 (show 7<97 by decide) rfl).trans (by refine zi.of' rfl ?_;simp only [wks,reduceIte,Nat.reduceEqDiff,ASt.okB,AV.okB,Nat.reduceLT,implies_true,ASt.add,z07,Int.natCast_zero,rsA,rsC,wtC,evA,evC,yl,List.take_zero,List.filter_nil,Nat.zero_add,Int.natCast_one,hs])) ?_
  rintro k hk KL hKL
  simp only [rsA,rsC,yl,wtC,evA,evC,hs]
  have hrk:(r.take k).length+1≤2000:=by simp;omega
  have hmx:(r.take k).length+1≤maxLen:=by unfold maxLen;omega
  have hmy:((r.take k).length+1)*24≤140737488355328:=by omega
  by_cases hlt:k<r.length
  ·obtain ⟨x,hx⟩:=qA hlt
   have hd:decide (((k+1:Nat):Int)<((r.length+1:Nat):Int))=true:=by simp;omega
   have hcont : ∀ s',zi s' _→KL s':=fun s' hw=>hKL s' (k+1) (by rw [map_take (fixW e w) hx,List.map_append];exact hw) (by omega) (by omega)
   repeat' (first|refine T.zk fun K hK=>?_|apply T.block|(refine T.reg (by kernel_rfl) fun K' hK'=>?_;simp only [bz];(with_reducible repeat' (first|(apply WL.fin;apply hK';clear hK' K')|(refine WL.step fun K2 hK2=>?_;simp only [simprocAttr,implies_true,amz,zf,tys,hx,hd,wtC,hs,List.map_cons,List.getElem?_cons_succ,List.length_cons,w3,hmx,hmy,ml_1];repeat' (first|(apply hK2;clear hK2 K2)|apply And.intro|intro hb)))))|apply T.skip|apply T.exit|refine T.zh rfl ?_|refine T.zg rfl ?_|refine T.cond rfl (fun hc=>?_) (fun hc=>?_)|apply T.ret|simp only [ze,z8,reduceIte,Nat.reduceEqDiff]|((repeat ((fail_if_success apply hK);clear hK K));apply hK;clear hK K))
   all_goals (refine hcont _ ?_;refine zi.of' rfl ?_;simp only [wks,reduceIte,Nat.reduceEqDiff,ASt.okB,AV.okB,Nat.reduceLT,implies_true,zx (show k+1<1152921504606846976 by omega),rsA,rsC,wtC,evA,evC,yl,hs,fixW,w3,Bool.false_and,Bool.true_and,Bool.false_eq_true,if_false,if_true, *])
  ·have hd:decide (((k+1:Nat):Int)<((r.length+1:Nat):Int))=false:=by simp;omega
   refine T.weak (zi.frz _ 4) ?_;simp only [ASt.frz,List.filter_cons,List.filter_nil,bne_self_eq_false,Nat.reduceBneDiff,Bool.false_eq_true,simprocAttr,implies_true,amz,zf,]
   have ht:r.take k=r:=List.take_of_length_le (by omega)
   rw [ht]
   repeat' (first|refine T.zk fun K hK=>?_|apply T.block|(refine T.reg (by kernel_rfl) fun K' hK'=>?_;simp only [bz];(repeat' (first|(with_reducible refine WL.fin ?_;apply hK';clear hK' K')|((with_reducible refine WL.step fun K2 hK2=>?_);simp only [simprocAttr,implies_true,amz,zf,tys,hd,wtC,List.map_cons,List.length_cons,rsA,rsC];(repeat' (first|with_reducible (first|(apply hK2;clear hK2 K2)|apply And.intro|intro hb)|((with_reducible first|apply zl|apply zn);case h=>exact CallV.plain (Ent.of Tryz.func90 (by kernel_rfl) rfl) (z3v (z7k s (r.map (fixW e w))) e hl) (by simp [AV.okB]))))))))|apply T.skip|apply T.exit|refine T.zh rfl ?_|refine T.zg rfl ?_|refine T.cond rfl (fun hc=>?_) (fun hc=>?_)|apply T.ret|simp only [ze,z8,reduceIte,Nat.reduceEqDiff]|((repeat ((fail_if_success apply hK);clear hK K));apply hK;clear hK K))
   all_goals (refine zP.ret (.inr rfl) Tryz.results71 ?_;simp only [zI,zu,zw,simprocAttr,implies_true,amz,zf,tys,])
theorem group_ok (s:Rs) (e:Ev) (w:Wt) (r:List Wt) (hs:s.next=w :: r) (hl:s.chans.length≤1000000) (hr:r.length≤1000):zt Tryz.prog 71 [rsA s,evA e] (.tup [rsA (z1b s e w r).1,.bool (z1b s e w r).2]):=by
 by_cases h:badB s e w=true
 ·exact group_bad s e w r hs h
 ·exact z8F s e w r hs hl hr (by simpa using h)
def z4B (m:Lk) (b:Bool):Lk := { m with locked:=b }
def z4F (m:Lk) (d:Int):Lk := { m with readers:=IntKind.i64.wrap d }
def z1e (s:Rs) (e:Ev):Rs × Bool :=
 if (e.kind==6)=true then (setL s (z4B (z0F e.obj e.off s.locks) true),!(z0F e.obj e.off s.locks).locked&&(z0F e.obj e.off s.locks).readers==0)
 else if (e.kind==7)=true then (setL s (z4B (z0F e.obj e.off s.locks) false),!(!(z0F e.obj e.off s.locks).locked))
 else if (e.kind==8)=true then (setL s (z4F (z0F e.obj e.off s.locks) ((z0F e.obj e.off s.locks).readers+1)),!(z0F e.obj e.off s.locks).locked)
 else if (e.kind==9)=true then (setL s (z4F (z0F e.obj e.off s.locks) ((z0F e.obj e.off s.locks).readers-1)),decide (0≤IntKind.i64.wrap ((z0F e.obj e.off s.locks).readers-1)))
 else if (e.kind==12)=true then ({ s with done:=s.done ++ [(e.obj,e.off)] },!doneB s e.obj e.off)
 else if (e.kind==13)=true then (s,doneB s e.obj e.off)
 else if (e.kind==14)=true then ({ s with gor:=IntKind.i64.wrap (s.gor+1) },e.k==s.gor)
 else (s,true)
theorem other_ok (s:Rs) (e:Ev) (hl:s.locks.length≤1000000) (hdn:s.done.length≤1000000):zt Tryz.prog 74 [rsA s,evA e] (.tup [rsA (z1e s e).1,.bool (z1e s e).2]):=by
 simp only [rsA,rsC,yl,evA,evC]
 refine zt.of Tryz.func74 rfl 109 rfl (by decide) (by simp [AV.okB]) ?_
 have hmx:s.done.length+1≤maxLen:=by unfold maxLen;omega
 have hmw:s.done.length≤maxLen:=by unfold maxLen;omega
 have hmy:(s.done.length+1)*16≤140737488355328:=by omega
 have hmz:s.done.length*16≤140737488355328:=by omega
 by_cases h12:(e.kind==12)=true
 ·have n6:(e.kind==6)=false:=by simp at h12 ⊢;omega
  have n7:(e.kind==7)=false:=by simp at h12 ⊢;omega
  have n8:(e.kind==8)=false:=by simp at h12 ⊢;omega
  have n9:(e.kind==9)=false:=by simp at h12 ⊢;omega
  repeat' (first|refine T.zk fun K hK=>?_|apply T.block|(refine T.reg (by kernel_rfl) fun K' hK'=>?_;simp only [bz];(repeat' (first|(with_reducible refine WL.fin ?_;apply hK';clear hK' K')|((with_reducible refine WL.step fun K2 hK2=>?_);simp only [simprocAttr,implies_true,amz,zf,tys,lkA,lkC,rsA,rsC,n6,n7,n8,n9,h12];(repeat' (first|with_reducible (first|(apply hK2;clear hK2 K2)|apply And.intro|intro hb)|((with_reducible first|apply zl|apply zn);case h=>exact CallV.plain (Ent.of Tryz.func94 (by kernel_rfl) rfl) (lock_ok s e.obj e.off hl) (by simp [AV.okB]))|((with_reducible first|apply zl|apply zn);case h=>exact CallV.plain (Ent.of Tryz.func96 (by kernel_rfl) rfl) (done_ok s e.obj e.off hdn) (by simp [AV.okB]))))))))|apply T.skip|apply T.exit|refine T.zh rfl ?_|refine T.zg rfl ?_|refine T.cond rfl (fun hc=>?_) (fun hc=>?_)|apply T.ret|simp only [ze,z8,reduceIte,Nat.reduceEqDiff]|((repeat ((fail_if_success apply hK);clear hK K));apply hK;clear hK K))
  refine T.comm [none,some (0,3),some (0,1),none,some (0,3),some (0,3),some (0,3),some (0,3),some (0,3),some (0,2),none,some (3,3),none] (by kernel_rfl) (by kernel_rfl) fun K' hK'=>?_;simp only [yl,List.zip_cons_cons,List.zip_nil_left];(repeat' (first|(with_reducible refine WC.fin ?_;apply hK';clear hK' K')|((first|(with_reducible refine WC.z0O fun K2 hK2=>?_)|(with_reducible refine WC.stepW fun K2 hK2=>?_));simp only [simprocAttr,implies_true,amz,zf,WCg,WCv,WOw,allP,dav,Chk,List.filter_cons,List.filter_nil,bne_self_eq_false,Nat.reduceBneDiff,Bool.false_eq_true,tys,lkA,lkC,rsA,rsC,hmx,hmy,hmw,hmz,ml_1];(repeat' (first|(with_reducible refine hK2 _ _ ?_;clear hK2 K2)|with_reducible (first|(apply hK2;clear hK2 K2)|apply And.intro|intro hb)|(with_reducible rfl)|((with_reducible show @Eq ASt _ _);rfl) )))));all_goals ((try simp only [ze,z8,reduceIte,Nat.reduceEqDiff]);(try ((repeat ((fail_if_success apply hK);clear hK K));apply hK;clear hK K)))
  refine T.weak (zi.frz _ 6) ?_;simp only [ASt.frz,List.filter_cons,List.filter_nil,bne_self_eq_false,Nat.reduceBneDiff,Bool.false_eq_true,simprocAttr,implies_true,amz,zf,tys]
  repeat' (first|refine T.zk fun K hK=>?_|apply T.block|(refine T.reg (by kernel_rfl) fun K' hK'=>?_;simp only [bz];(with_reducible repeat' (first|(apply WL.fin;apply hK';clear hK' K')|(refine WL.step fun K2 hK2=>?_;simp only [simprocAttr,implies_true,amz,zf,tys,lkA,lkC,rsA,rsC];repeat' (first|(apply hK2;clear hK2 K2)|apply And.intro|intro hb)))))|apply T.skip|apply T.exit|refine T.zh rfl ?_|refine T.zg rfl ?_|refine T.cond rfl (fun hc=>?_) (fun hc=>?_)|apply T.ret|simp only [ze,z8,reduceIte,Nat.reduceEqDiff]|((repeat ((fail_if_success apply hK);clear hK K));apply hK;clear hK K))
  all_goals (refine zP.ret (.inr rfl) Tryz.results74 ?_;simp only [zI,zu,zw,simprocAttr,implies_true,amz,zf,tys,];simp [z1e,loC, *])
 have h12' : (e.kind==12)=false:=by simpa using h12
 repeat' (first|refine T.zk fun K hK=>?_|apply T.block|(refine T.reg (by kernel_rfl) fun K' hK'=>?_;simp only [bz];(repeat' (first|(with_reducible refine WL.fin ?_;apply hK';clear hK' K')|((with_reducible refine WL.step fun K2 hK2=>?_);simp only [simprocAttr,implies_true,amz,zf,tys,lkA,lkC,rsA,rsC,h12'];(repeat' (first|with_reducible (first|(apply hK2;clear hK2 K2)|apply And.intro|intro hb)|((with_reducible first|apply zl|apply zn);case h=>exact CallV.plain (Ent.of Tryz.func94 (by kernel_rfl) rfl) (lock_ok s e.obj e.off hl) (by simp [AV.okB]))|((with_reducible first|apply zl|apply zn);case h=>exact CallV.plain (Ent.of Tryz.func95 (by kernel_rfl) rfl) (z5W s (z4B (z0F e.obj e.off s.locks) false) hl) (by simp [AV.okB]))|((with_reducible first|apply zl|apply zn);case h=>exact CallV.plain (Ent.of Tryz.func95 (by kernel_rfl) rfl) (z5W s (z4F (z0F e.obj e.off s.locks) ((z0F e.obj e.off s.locks).readers+1)) hl) (by simp [AV.okB]))))))))|apply T.skip|apply T.exit|refine T.zh rfl ?_|refine T.zg rfl ?_|refine T.cond rfl (fun hc=>?_) (fun hc=>?_)|apply T.ret|simp only [ze,z8,reduceIte,Nat.reduceEqDiff]|((repeat ((fail_if_success apply hK);clear hK K));apply hK;clear hK K))
 ·refine T.comm [c0,c0,c0,some (0,1),c0,some (0,1),some (0,1),some (0,1),some (0,1),none,some (1,1)] (by kernel_rfl) (by kernel_rfl) fun K' hK'=>?_;simp only [yl,List.zip_cons_cons,List.zip_nil_left];(repeat' (first|(with_reducible refine WC.fin ?_;apply hK';clear hK' K')|((first|(with_reducible refine WC.z0O fun K2 hK2=>?_)|(with_reducible refine WC.stepW fun K2 hK2=>?_));simp only [simprocAttr,implies_true,amz,zf,WCg,WCv,WOw,allP,dav,Chk,List.filter_cons,List.filter_nil,bne_self_eq_false,Nat.reduceBneDiff,Bool.false_eq_true,tys,lkA,lkC,rsA,rsC];(repeat' (first|(with_reducible refine hK2 _ _ ?_;clear hK2 K2)|with_reducible (first|(apply hK2;clear hK2 K2)|apply And.intro|intro hb)|(with_reducible rfl)|((with_reducible show @Eq ASt _ _);rfl)|((with_reducible first|apply zl|apply zn);case h=>exact CallV.plain (Ent.of Tryz.func95 (by kernel_rfl) rfl) (z5W s (z4B (z0F e.obj e.off s.locks) true) hl) (by simp [AV.okB])))))));all_goals ((try simp only [ze,z8,reduceIte,Nat.reduceEqDiff]);(try ((repeat ((fail_if_success apply hK);clear hK K));apply hK;clear hK K)))
  all_goals repeat' (first|refine T.zk fun K hK=>?_|apply T.block|(refine T.reg (by kernel_rfl) fun K' hK'=>?_;simp only [bz];(with_reducible repeat' (first|(apply WL.fin;apply hK';clear hK' K')|(refine WL.step fun K2 hK2=>?_;simp only [simprocAttr,implies_true,amz,zf,tys,lkA,lkC,rsA,rsC];repeat' (first|(apply hK2;clear hK2 K2)|apply And.intro|intro hb)))))|apply T.skip|apply T.exit|refine T.zh rfl ?_|refine T.zg rfl ?_|refine T.cond rfl (fun hc=>?_) (fun hc=>?_)|apply T.ret|simp only [ze,z8,reduceIte,Nat.reduceEqDiff]|((repeat ((fail_if_success apply hK);clear hK K));apply hK;clear hK K))
  all_goals (refine zP.ret (.inr rfl) Tryz.results74 ?_;simp only [zI,zu,zw,simprocAttr,implies_true,amz,zf,tys,];simp [z1e,z4F,z4B, *])
 ·refine zP.ret (.inr rfl) Tryz.results74 ?_;simp only [zI,zu,zw,simprocAttr,implies_true,amz,zf,tys,];simp [z1e,z4F,z4B, *]
 ·refine zP.ret (.inr rfl) Tryz.results74 ?_;simp only [zI,zu,zw,simprocAttr,implies_true,amz,zf,tys,];simp [z1e,z4F,z4B, *]
 ·refine T.comm [c0,c0,c0,some (0,1),some (0,1),some (0,1),none,some (1,1)] (by kernel_rfl) (by kernel_rfl) fun K' hK'=>?_;simp only [yl,List.zip_cons_cons,List.zip_nil_left];(repeat' (first|(with_reducible refine WC.fin ?_;apply hK';clear hK' K')|((first|(with_reducible refine WC.z0O fun K2 hK2=>?_)|(with_reducible refine WC.stepW fun K2 hK2=>?_));simp only [simprocAttr,implies_true,amz,zf,WCg,WCv,WOw,allP,dav,Chk,List.filter_cons,List.filter_nil,bne_self_eq_false,Nat.reduceBneDiff,Bool.false_eq_true,tys,lkA,lkC,rsA,rsC];(repeat' (first|(with_reducible refine hK2 _ _ ?_;clear hK2 K2)|with_reducible (first|(apply hK2;clear hK2 K2)|apply And.intro|intro hb)|(with_reducible rfl)|((with_reducible show @Eq ASt _ _);rfl)|((with_reducible first|apply zl|apply zn);case h=>exact CallV.plain (Ent.of Tryz.func95 (by kernel_rfl) rfl) (z5W s (z4F (z0F e.obj e.off s.locks) ((z0F e.obj e.off s.locks).readers-1)) hl) (by simp [AV.okB])))))));all_goals ((try simp only [ze,z8,reduceIte,Nat.reduceEqDiff]);(try ((repeat ((fail_if_success apply hK);clear hK K));apply hK;clear hK K)))
  all_goals repeat' (first|refine T.zk fun K hK=>?_|apply T.block|(refine T.reg (by kernel_rfl) fun K' hK'=>?_;simp only [bz];(with_reducible repeat' (first|(apply WL.fin;apply hK';clear hK' K')|(refine WL.step fun K2 hK2=>?_;simp only [simprocAttr,implies_true,amz,zf,tys,lkA,lkC,rsA,rsC];repeat' (first|(apply hK2;clear hK2 K2)|apply And.intro|intro hb)))))|apply T.skip|apply T.exit|refine T.zh rfl ?_|refine T.zg rfl ?_|refine T.cond rfl (fun hc=>?_) (fun hc=>?_)|apply T.ret|simp only [ze,z8,reduceIte,Nat.reduceEqDiff]|((repeat ((fail_if_success apply hK);clear hK K));apply hK;clear hK K))
  all_goals (refine zP.ret (.inr rfl) Tryz.results74 ?_;simp only [zI,zu,zw,simprocAttr,implies_true,amz,zf,tys,];simp [z1e,z4F,z4B, *])
 ·refine T.drw 7 (by kernel_rfl) (by kernel_rfl) fun K' hK'=>?_;simp only [yl];(repeat' (first|(with_reducible refine WL.fin ?_;apply hK';clear hK' K')|(with_reducible refine WD.fin ?_)|((with_reducible first|refine WL.step fun K2 hK2=>?_|refine WD.step fun K2 hK2=>?_);simp only [simprocAttr,implies_true,amz,zf,tys,lkA,lkC,rsA,rsC];(repeat' (first|with_reducible (first|(apply hK2;clear hK2 K2)|apply And.intro|intro hb)|((with_reducible first|apply zl|apply zn);case h=>exact CallV.plain (Ent.of Tryz.func96 (by kernel_rfl) rfl) (done_ok s e.obj e.off hdn) (by simp [AV.okB])))))));all_goals ((try simp only [ze,z8,reduceIte,Nat.reduceEqDiff]);(try ((repeat ((fail_if_success apply hK);clear hK K));apply hK;clear hK K)))
  all_goals repeat' (first|refine T.zk fun K hK=>?_|apply T.block|(refine T.reg (by kernel_rfl) fun K' hK'=>?_;simp only [bz];(with_reducible repeat' (first|(apply WL.fin;apply hK';clear hK' K')|(refine WL.step fun K2 hK2=>?_;simp only [simprocAttr,implies_true,amz,zf,tys,lkA,lkC,rsA,rsC];repeat' (first|(apply hK2;clear hK2 K2)|apply And.intro|intro hb)))))|apply T.skip|apply T.exit|refine T.zh rfl ?_|refine T.zg rfl ?_|refine T.cond rfl (fun hc=>?_) (fun hc=>?_)|apply T.ret|simp only [ze,z8,reduceIte,Nat.reduceEqDiff]|((repeat ((fail_if_success apply hK);clear hK K));apply hK;clear hK K))
  all_goals (refine zP.ret (.inr rfl) Tryz.results74 ?_;simp only [zI,zu,zw,simprocAttr,implies_true,amz,zf,tys,];simp [z1e,z4F,z4B, *])
 ·refine T.comm [c0,some (0,1),some (0,1),some (0,1),some (0,1),none,some (1,1)] (by kernel_rfl) (by kernel_rfl) fun K' hK'=>?_;simp only [yl,List.zip_cons_cons,List.zip_nil_left];(repeat' (first|(with_reducible refine WC.fin ?_;apply hK';clear hK' K')|((first|(with_reducible refine WC.z0O fun K2 hK2=>?_)|(with_reducible refine WC.stepW fun K2 hK2=>?_));simp only [simprocAttr,implies_true,amz,zf,WCg,WCv,WOw,allP,dav,Chk,List.filter_cons,List.filter_nil,bne_self_eq_false,Nat.reduceBneDiff,Bool.false_eq_true,tys,lkA,lkC,rsA,rsC];(repeat' (first|(with_reducible refine hK2 _ _ ?_;clear hK2 K2)|with_reducible (first|(apply hK2;clear hK2 K2)|apply And.intro|intro hb)|(with_reducible rfl)|((with_reducible show @Eq ASt _ _);rfl) )))));all_goals ((try simp only [ze,z8,reduceIte,Nat.reduceEqDiff]);(try ((repeat ((fail_if_success apply hK);clear hK K));apply hK;clear hK K)))
  all_goals repeat' (first|refine T.zk fun K hK=>?_|apply T.block|(refine T.reg (by kernel_rfl) fun K' hK'=>?_;simp only [bz];(with_reducible repeat' (first|(apply WL.fin;apply hK';clear hK' K')|(refine WL.step fun K2 hK2=>?_;simp only [simprocAttr,implies_true,amz,zf,tys,lkA,lkC,rsA,rsC];repeat' (first|(apply hK2;clear hK2 K2)|apply And.intro|intro hb)))))|apply T.skip|apply T.exit|refine T.zh rfl ?_|refine T.zg rfl ?_|refine T.cond rfl (fun hc=>?_) (fun hc=>?_)|apply T.ret|simp only [ze,z8,reduceIte,Nat.reduceEqDiff]|((repeat ((fail_if_success apply hK);clear hK K));apply hK;clear hK K))
  all_goals (refine zP.ret (.inr rfl) Tryz.results74 ?_;simp only [zI,zu,zw,simprocAttr,implies_true,amz,zf,tys,];simp [z1e,z4F,z4B, *])
 ·refine zP.ret (.inr rfl) Tryz.results74 ?_;simp only [zI,zu,zw,simprocAttr,implies_true,amz,zf,tys,];simp [z1e,z4F,z4B, *]
theorem AVle.agg {xs ys:List AV} (hl:xs.length=ys.length) (h : ∀ (j:Nat) x y,xs[j]? = some x→ys[j]? = some y→AVle x y):AVle (.agg xs) (.agg ys):=fun N D loc w v hv=>by
 cases hv with
 | agg _ vs h1 h2 h3 =>
  refine .agg ys vs (h1.trans hl) (fun j y hy=>?_) h3
  have hlt:j<xs.length:=by rw [hl];exact (List.getElem?_eq_some_iff.1 hy).1
  exact h j _ y (List.getElem?_eq_getElem hlt) hy N D loc w _ (h2 j _ (List.getElem?_eq_getElem hlt))
theorem zt.le {P:Program} {f:FuncId} {xs:List AV} {r r' : AV} (h:zt P f xs r) (hle:AVle r r'):zt P f xs r':=fun L w vs hL hvs=>(h L w vs hL hvs).mono fun _ _ ⟨v,h1,h2,h3⟩=>⟨v,h1,h2,hle _ _ _ _ _ h3⟩
theorem new_ok:zt Tryz.prog 52 [] (rsA rs0):=by
 refine zt.le (r := .agg [.int 0,.int 1,.p (.val (.slice none 0 0)),.p (.val (.slice none 0 0)),.p (.val (.slice none 0 0)),.p (.val (.slice none 0 0)),.int 0,.int 0,.int 0]) ?_ ?_
 ·refine zt.of Tryz.func52 rfl 2 rfl (by decide) (by simp [AV.okB]) ?_
  repeat' (first|refine T.zk fun K hK=>?_|apply T.block|(refine T.reg (by kernel_rfl) fun K' hK'=>?_;simp only [bz];(with_reducible repeat' (first|(apply WL.fin;apply hK';clear hK' K')|(refine WL.step fun K2 hK2=>?_;simp only [simprocAttr,implies_true,amz,zf,tys];repeat' (first|(apply hK2;clear hK2 K2)|apply And.intro|intro hb)))))|apply T.skip|apply T.exit|refine T.zh rfl ?_|refine T.zg rfl ?_|refine T.cond rfl (fun hc=>?_) (fun hc=>?_)|apply T.ret|simp only [ze,z8,reduceIte,Nat.reduceEqDiff]|((repeat ((fail_if_success apply hK);clear hK K));apply hK;clear hK K))
  all_goals (refine zP.ret (.inr rfl) Tryz.results52 ?_;simp only [zI,zu,zw,simprocAttr,implies_true,amz,zf,tys,])
 ·refine AVle.agg rfl fun j x y hx hy=>?_
  rcases j with _|_|_|_|_|_|_|_|_|j <;> simp [rsC,rs0] at hx hy <;> subst hx <;> subst hy <;> first|exact AVle.refl _|exact AVle.nil _
def z6M (s:Rs) (e:Ev):Rs × Bool:=match s.next with
 | w :: r=>z1b s e w r
 | []=>if z2o e.kind=true then z4P s e else z1e s e
def cnt1 (s:Rs):Rs := { s with count:=IntKind.i64.wrap (s.count+1) }
def noAdd (s:Rs) (e:Ev):Bool := !z3Q e||decide (5000≤s.count)||decide (s.gor≤e.g)
def addB (s:Rs) (e:Ev):Rs × Bool:=if noAdd s e=true then (s,false) else if (z6M s e).2=true then (cnt1 (z6M s e).1,true) else (s,false)
structure Sm (s:Rs):Prop where
 c:s.chans.length≤1000000
 l:s.locks.length≤1000000
 d:s.done.length≤1000000
 n:s.next.length≤1000
theorem add_ok (s:Rs) (e:Ev) (hs:Sm s):zt Tryz.prog 53 [rsA s,evA e] (.tup [rsA (addB s e).1,.bool (addB s e).2]):=by
 by_cases hno:noAdd s e=true
 ·have hres:addB s e=(s,false):=by simp [addB,hno]
  rw [hres]
  simp only [rsA,rsC,yl,evA,evC]
  refine zt.of Tryz.func53 rfl 59 rfl (by decide) (by simp [AV.okB]) ?_
  repeat' (first|refine T.zk fun K hK=>?_|apply T.block|(refine T.reg (by kernel_rfl) fun K' hK'=>?_;simp only [bz];(repeat' (first|(with_reducible refine WL.fin ?_;apply hK';clear hK' K')|((with_reducible refine WL.step fun K2 hK2=>?_);simp only [simprocAttr,implies_true,amz,zf,tys];(repeat' (first|with_reducible (first|(apply hK2;clear hK2 K2)|apply And.intro|intro hb)|((with_reducible first|apply zl|apply zn);case h=>exact CallV.plain (Ent.of Tryz.func70 (by kernel_rfl) rfl) (z4Q e) (by simp [AV.okB]))))))))|apply T.skip|apply T.exit|refine T.zh rfl ?_|refine T.zg rfl ?_|refine T.cond rfl (fun hc=>?_) (fun hc=>?_)|apply T.ret|simp only [ze,z8,reduceIte,Nat.reduceEqDiff]|((repeat ((fail_if_success apply hK);clear hK K));apply hK;clear hK K))
  all_goals first
   | ((refine zP.ret (.inr rfl) Tryz.results53 ?_;simp only [zI,zu,zw,simprocAttr,implies_true,amz,zf,tys,]);done)
   | (exfalso;simp_all [noAdd];done)
 ·have hno' : noAdd s e=false:=by simpa using hno
  have hn2:=hno'
  simp only [noAdd,Bool.or_eq_false_iff] at hn2
  obtain ⟨⟨a1,a2⟩,a3⟩:=hn2
  cases hnx:s.next with
  | cons w r =>
   have hst:z6M s e=z1b s e w r:=by simp [z6M,hnx]
   have hrl:r.length≤1000:=by have:=hs.n;rw [hnx] at this;simp at this;omega
   have hd:decide ((0:Int)<((r.length+1:Nat):Int))=true:=by simp
   have hg:=group_ok s e w r hnx hs.c hrl
   simp only [rsA,rsC,yl,evA,evC,hnx] at hg
   simp only [rsA,rsC,yl,evA,evC]
   refine zt.of Tryz.func53 rfl 59 rfl (by decide) (by simp [AV.okB]) ?_
   repeat' (first|refine T.zk fun K hK=>?_|apply T.block|(refine T.reg (by kernel_rfl) fun K' hK'=>?_;simp only [bz];(repeat' (first|(with_reducible refine WL.fin ?_;apply hK';clear hK' K')|((with_reducible refine WL.step fun K2 hK2=>?_);simp only [simprocAttr,implies_true,amz,zf,tys,a1,a2,a3,hd,hnx,List.length_cons,List.map_cons,rsA,rsC];(repeat' (first|with_reducible (first|(apply hK2;clear hK2 K2)|apply And.intro|intro hb)|((with_reducible first|apply zl|apply zn);case h=>exact CallV.plain (Ent.of Tryz.func70 (by kernel_rfl) rfl) (z4Q e) (by simp [AV.okB]))|((with_reducible first|apply zl|apply zn);case h=>exact CallV.plain (Ent.of Tryz.func71 (by kernel_rfl) rfl) (hg) (by simp [AV.okB]))))))))|apply T.skip|apply T.exit|refine T.zh rfl ?_|refine T.zg rfl ?_|refine T.cond rfl (fun hc=>?_) (fun hc=>?_)|apply T.ret|simp only [ze,z8,reduceIte,Nat.reduceEqDiff]|((repeat ((fail_if_success apply hK);clear hK K));apply hK;clear hK K))
   all_goals (refine zP.ret (.inr rfl) Tryz.results53 ?_;simp only [zI,zu,zw,simprocAttr,implies_true,amz,zf,tys,];first|(simp [addB,hno',hst,cnt1, *];done)|(simp at hc;simp [addB,hno',hst,cnt1,hc, *];done))
  | nil =>
   have hst:z6M s e=if z2o e.kind=true then z4P s e else z1e s e:=by simp [z6M,hnx]
   have hd:decide ((0:Int)<((0:Nat):Int))=false:=by simp
   have ht:=trans_ok s e hs.c
   have ho:=other_ok s e hs.l hs.d
   simp only [rsA,rsC,yl,evA,evC,hnx] at ht ho
   simp only [rsA,rsC,yl,evA,evC]
   refine zt.of Tryz.func53 rfl 59 rfl (by decide) (by simp [AV.okB]) ?_
   repeat' (first|refine T.zk fun K hK=>?_|apply T.block|(refine T.reg (by kernel_rfl) fun K' hK'=>?_;simp only [bz];(repeat' (first|(with_reducible refine WL.fin ?_;apply hK';clear hK' K')|((with_reducible refine WL.step fun K2 hK2=>?_);simp only [simprocAttr,implies_true,amz,zf,tys,a1,a2,a3,hd,hnx,rsA,rsC,List.length_nil,List.map_nil];(repeat' (first|with_reducible (first|(apply hK2;clear hK2 K2)|apply And.intro|intro hb)|((with_reducible first|apply zl|apply zn);case h=>exact CallV.plain (Ent.of Tryz.func70 (by kernel_rfl) rfl) (z4Q e) (by simp [AV.okB]))|((with_reducible first|apply zl|apply zn);case h=>exact CallV.plain (Ent.of Tryz.func72 (by kernel_rfl) rfl) (z6W e.kind) (by simp [AV.okB]))|((with_reducible first|apply zl|apply zn);case h=>exact CallV.plain (Ent.of Tryz.func73 (by kernel_rfl) rfl) (ht) (by simp [AV.okB]))|((with_reducible first|apply zl|apply zn);case h=>exact CallV.plain (Ent.of Tryz.func74 (by kernel_rfl) rfl) (ho) (by simp [AV.okB]))))))))|apply T.skip|apply T.exit|refine T.zh rfl ?_|refine T.zg rfl ?_|refine T.cond rfl (fun hc=>?_) (fun hc=>?_)|apply T.ret|simp only [ze,z8,reduceIte,Nat.reduceEqDiff]|((repeat ((fail_if_success apply hK);clear hK K));apply hK;clear hK K))
   all_goals (refine zP.ret (.inr rfl) Tryz.results53 ?_;simp only [zI,zu,zw,simprocAttr,implies_true,amz,zf,tys,];first|(simp [addB,hno',hst,cnt1, *];done)|(simp at hc;simp [addB,hno',hst,cnt1,hc, *];done))
structure Sn (s:Rs) (k:Nat):Prop where
 c:s.chans.length≤k
 l:s.locks.length≤k
 d:s.done.length≤k
 n:s.next.length≤3
theorem setC_len (s:Rs) (c:Cn):(setC s c).chans.length≤s.chans.length+1:=by
 simp only [setC,List.length_append,List.length_cons,List.length_nil]
 have:=List.length_filter_le (fun x:Cn=>x.obj != c.obj) s.chans
 omega
theorem setL_len (s:Rs) (c:Lk):(setL s c).locks.length≤s.locks.length+1:=by
 simp only [setL,List.length_append,List.length_cons,List.length_nil]
 have:=List.length_filter_le (z4W c) s.locks
 omega
theorem Sn.up {s:Rs} {k:Nat} (h:Sn s k):Sn s (k+1):=⟨by have:=h.c;omega,by have:=h.l;omega,by have:=h.d;omega,h.n⟩
theorem Sn.setC {s:Rs} {k:Nat} (h:Sn s k) (c:Cn):Sn (setC s c) (k+1):=⟨by have:=setC_len s c;have:=h.c;omega,by have:=h.l;simp only [Go.Proofs.YtbkkginjfnjffaaGreatDoor.setC];omega,by have:=h.d;simp only [Go.Proofs.YtbkkginjfnjffaaGreatDoor.setC];omega,h.n⟩
theorem Sn.setL {s:Rs} {k:Nat} (h:Sn s k) (c:Lk):Sn (setL s c) (k+1):=⟨by have:=h.c;simp only [Go.Proofs.YtbkkginjfnjffaaGreatDoor.setL];omega,by have:=setL_len s c;have:=h.l;omega,by have:=h.d;simp only [Go.Proofs.YtbkkginjfnjffaaGreatDoor.setL];omega,h.n⟩
theorem Sn.counted {s:Rs} {k:Nat} (h:Sn s k) (e:Ev):Sn (z1B s e) (k+1):=by
 unfold z1B
 split
 ·exact h.setC _
 ·split
  ·exact h.setC _
  ·exact h.up
theorem Sn.begin {s:Rs} {k:Nat} (h:Sn s k) (e:Ev) (nx:List Wt) (hn:nx.length≤3):Sn (z3I s e nx) (k+1):=by
 unfold z3I
 exact Sn.counted (s:=openB s e nx) ⟨h.c,h.l,h.d,hn⟩ e
theorem Sn.group {s:Rs} {k:Nat} (h:Sn s k) (e:Ev) (w:Wt) (r:List Wt) (hnx:s.next=w :: r):Sn (z1b s e w r).1 (k+1):=by
 unfold z1b
 split
 ·exact h.up
 ·refine Sn.counted (s:=z7k s (r.map (fixW e w))) ⟨h.c,h.l,h.d,?_⟩ e
  have:=h.n
  rw [hnx] at this
  simp [z7k] at this ⊢
  omega
theorem Sn.trans {s:Rs} {k:Nat} (h:Sn s k) (e:Ev):Sn (z4P s e).1 (k+1):=by
 unfold z4P
 repeat' (first|exact h.up|exact h.setC _|exact h.begin e _ (by simp)|split)
theorem Sn.other {s:Rs} {k:Nat} (h:Sn s k) (e:Ev):Sn (z1e s e).1 (k+1):=by
 unfold z1e
 repeat' (first|exact h.up|exact h.setL _|exact ⟨by have:=h.c;simp only [];omega,by have:=h.l;simp only [];omega,by have:=h.d;simp;omega,h.n⟩|split)
theorem Sn.add {s:Rs} {k:Nat} (h:Sn s k) (e:Ev):Sn (addB s e).1 (k+1):=by
 have hst:Sn (z6M s e).1 (k+1):=by
  unfold z6M
  split
  ·rename_i w r hnx;exact h.group e w r hnx
  ·split
   ·exact h.trans e
   ·exact h.other e
 unfold addB
 split
 ·exact h.up
 ·split
  ·exact ⟨hst.c,hst.l,hst.d,hst.n⟩
  ·exact h.up
theorem Sn.sm {s:Rs} {k:Nat} (h:Sn s k) (hk:k≤1000000):Sm s:=⟨by have:=h.c;omega,by have:=h.l;omega,by have:=h.d;omega,by have:=h.n;omega⟩
def goB (s:Rs) (k:Int):List Ev→Int × Bool
 | []=>(k,true)
 | e :: r=>if (addB s e).2=true then goB (addB s e).1 (k+1) r else (k,false)
def z4Z (l:List Ev):Int × Bool:=goB rs0 0 l
theorem check_ok (l:List Ev) (hl:l.length≤1000000):zt Tryz.prog 35 [.p (.seq 9 (l.map evC))] (.tup [.int (z4Z l).1,.bool (z4Z l).2]):=by
 refine zt.of Tryz.func35 rfl 30 rfl (by decide) (by simp [AV.okB]) ?_
 repeat' (first|refine T.zk fun K hK=>?_|apply T.block|(refine T.reg (by kernel_rfl) fun K' hK'=>?_;simp only [bz];(repeat' (first|(with_reducible refine WL.fin ?_;apply hK';clear hK' K')|((with_reducible refine WL.step fun K2 hK2=>?_);simp only [simprocAttr,implies_true,amz,zf,tys,rsA,rsC];(repeat' (first|with_reducible (first|(apply hK2;clear hK2 K2)|apply And.intro|intro hb)|((with_reducible first|apply zl|apply zn);case h=>exact CallV.plain (Ent.of Tryz.func52 (by kernel_rfl) rfl) (new_ok) (by simp [AV.okB]))))))))|apply T.skip|apply T.exit|refine T.zh rfl ?_|refine T.zg rfl ?_|refine T.cond rfl (fun hc=>?_) (fun hc=>?_)|apply T.ret|simp only [ze,z8,reduceIte,Nat.reduceEqDiff]|((repeat ((fail_if_success apply hK);clear hK K));apply hK;clear hK K))
 refine T.z02 (fun p:Nat × Rs=>⟨[(0,.p (.seq 9 (l.map evC))),(2,.int 0),(3,.bool false),(4,.ptr 0 0),(5,.int p.1)],[(0,.box 130 ((rsC p.2).map .p))],30,1⟩) (fun p=>p.1≤l.length∧Sn p.2 p.1∧z4Z l=goB p.2 p.1 (l.drop p.1)) (fun p=>l.length-p.1) (0,rs0) ⟨Nat.zero_le _,⟨Nat.le_refl _,Nat.le_refl _,Nat.le_refl _,Nat.zero_le _⟩,rfl⟩ (by refine zi.of' rfl ?_;simp only [wks,reduceIte,Nat.reduceEqDiff,ASt.okB,AV.okB,Nat.reduceLT,implies_true,Int.natCast_zero,rsC,yl]) ?_
 rintro ⟨k,s⟩ ⟨hk,hsn,hn⟩ KL hKL
 simp only at hk hsn hn hKL ⊢
 simp only [rsC,yl]
 by_cases hlt:k<l.length
 ·obtain ⟨x,hx⟩:=qA hlt
  have hd:decide ((k:Int)<(l.length:Int))=true:=by simpa using hlt
  rw [drop_at hx,goB] at hn
  have hcont:(addB s x).2=true → ∀ s',zi s' _→KL s':=fun h s' hw=>hKL s' (k+1,(addB s x).1) hw ⟨by simp only [];omega,hsn.add x,by rw [hn,if_pos h];rfl⟩ (by simp only [];omega)
  repeat' (first|refine T.zk fun K hK=>?_|apply T.block|(refine T.reg (by kernel_rfl) fun K' hK'=>?_;simp only [bz];(with_reducible repeat' (first|(apply WL.fin;apply hK';clear hK' K')|(refine WL.step fun K2 hK2=>?_;simp only [simprocAttr,implies_true,amz,zf,tys,hx,hd,evC];repeat' (first|(apply hK2;clear hK2 K2)|apply And.intro|intro hb)))))|apply T.skip|apply T.exit|refine T.zh rfl ?_|refine T.zg rfl ?_|refine T.cond rfl (fun hc=>?_) (fun hc=>?_)|apply T.ret|simp only [ze,z8,reduceIte,Nat.reduceEqDiff]|((repeat ((fail_if_success apply hK);clear hK K));apply hK;clear hK K))
  refine T.comm [some (0,1),some (0,1),some (0,1),some (0,1),some (0,1),some (0,1),some (0,1),some (0,1),some (0,2),none,none,some (2,2)] (by kernel_rfl) (by kernel_rfl) fun K' hK'=>?_;simp only [yl,List.zip_cons_cons,List.zip_nil_left];(repeat' (first|(with_reducible refine WC.fin ?_;apply hK';clear hK' K')|((first|(with_reducible refine WC.z0O fun K2 hK2=>?_)|(with_reducible refine WC.stepW fun K2 hK2=>?_));simp only [simprocAttr,implies_true,amz,zf,WCg,WCv,WOw,allP,dav,Chk,List.filter_cons,List.filter_nil,bne_self_eq_false,Nat.reduceBneDiff,Bool.false_eq_true,tys,hx,evC,rsA,rsC];(repeat' (first|(with_reducible refine hK2 _ _ ?_;clear hK2 K2)|with_reducible (first|(apply hK2;clear hK2 K2)|apply And.intro|intro hb)|(with_reducible rfl)|((with_reducible show @Eq ASt _ _);rfl)|((with_reducible first|apply zl|apply zn);case h=>exact CallV.plain (Ent.of Tryz.func53 (by kernel_rfl) rfl) (add_ok s x (hsn.sm (by omega))) (by simp [AV.okB])))))));all_goals ((try simp only [ze,z8,reduceIte,Nat.reduceEqDiff]);(try ((repeat ((fail_if_success apply hK);clear hK K));apply hK;clear hK K)))
  all_goals repeat' (first|refine T.zk fun K hK=>?_|apply T.block|(refine T.reg (by kernel_rfl) fun K' hK'=>?_;simp only [bz];(with_reducible repeat' (first|(apply WL.fin;apply hK';clear hK' K')|(refine WL.step fun K2 hK2=>?_;simp only [simprocAttr,implies_true,amz,zf,tys];repeat' (first|(apply hK2;clear hK2 K2)|apply And.intro|intro hb)))))|apply T.skip|apply T.exit|refine T.zh rfl ?_|refine T.zg rfl ?_|refine T.cond rfl (fun hc=>?_) (fun hc=>?_)|apply T.ret|simp only [ze,z8,reduceIte,Nat.reduceEqDiff]|((repeat ((fail_if_success apply hK);clear hK K));apply hK;clear hK K))
  ·have hf:(addB s x).2=false:=by simpa using hc
   refine zP.ret (.inr rfl) Tryz.results35 ?_;simp only [zI,zu,zw,simprocAttr,implies_true,amz,zf,tys,]
   rw [hn]
   simp [hf]
  ·refine hcont (by simpa using hc) _ ?_
   refine zi.of' rfl ?_;simp only [wks,reduceIte,Nat.reduceEqDiff,ASt.okB,AV.okB,Nat.reduceLT,implies_true,zx (show k<1152921504606846976 by omega),rsC,yl]
 ·have hd:decide ((k:Int)<(l.length:Int))=false:=by simpa using hlt
  rw [z3e hlt,goB] at hn
  repeat' (first|refine T.zk fun K hK=>?_|apply T.block|(refine T.reg (by kernel_rfl) fun K' hK'=>?_;simp only [bz];(with_reducible repeat' (first|(apply WL.fin;apply hK';clear hK' K')|(refine WL.step fun K2 hK2=>?_;simp only [simprocAttr,implies_true,amz,zf,tys,hd];repeat' (first|(apply hK2;clear hK2 K2)|apply And.intro|intro hb)))))|apply T.skip|apply T.exit|refine T.zh rfl ?_|refine T.zg rfl ?_|refine T.cond rfl (fun hc=>?_) (fun hc=>?_)|apply T.ret|simp only [ze,z8,reduceIte,Nat.reduceEqDiff]|((repeat ((fail_if_success apply hK);clear hK K));apply hK;clear hK K))
  refine zP.ret (.inr rfl) Tryz.results35 ?_;simp only [zI,zu,zw,simprocAttr,implies_true,amz,zf,tys,]
  rw [hn]
  have:k=l.length:=by omega
  simp [this]
theorem validT_ok (l:List Ev) (hl:l.length≤1000000):zt Tryz.prog 10 [.p (.seq 9 (l.map evC))] (.bool (z4Z l).2):=by
 refine zt.of Tryz.func10 rfl 11 rfl (by decide) (by simp [AV.okB]) ?_
 repeat' (first|refine T.zk fun K hK=>?_|apply T.block|(refine T.reg (by kernel_rfl) fun K' hK'=>?_;simp only [bz];(repeat' (first|(with_reducible refine WL.fin ?_;apply hK';clear hK' K')|((with_reducible refine WL.step fun K2 hK2=>?_);simp only [simprocAttr,implies_true,amz,zf,tys];(repeat' (first|with_reducible (first|(apply hK2;clear hK2 K2)|apply And.intro|intro hb)|((with_reducible first|apply zl|apply zn);case h=>exact CallV.plain (Ent.of Tryz.func35 (by kernel_rfl) rfl) (check_ok l hl) (by simp [AV.okB]))))))))|apply T.skip|apply T.exit|refine T.zh rfl ?_|refine T.zg rfl ?_|refine T.cond rfl (fun hc=>?_) (fun hc=>?_)|apply T.ret|simp only [ze,z8,reduceIte,Nat.reduceEqDiff]|((repeat ((fail_if_success apply hK);clear hK K));apply hK;clear hK K))
 all_goals (refine zP.ret (.inr rfl) Tryz.results10 ?_;simp only [zI,zu,zw,simprocAttr,implies_true,amz,zf,tys,])
end Go.Proofs.YtbkkginjfnjffaaGreatDoor
namespace Go.Proofs.YtbkkginjfnjffaaGreatDoor
open Go.RowKit Go.Sort Go.Maps
def rgF (p:Nat→Bool) (k:Nat):List Nat:=(List.range k).filter p
theorem rgF_succ (p:Nat→Bool) (k:Nat):rgF p (k+1)=rgF p k++if p k then [k] else []:=by
 unfold rgF
 rw [List.range_succ,List.filter_append];simp only [List.filter_cons,List.filter_nil]
theorem rgF_len (p:Nat→Bool) (k:Nat):(rgF p k).length≤k:=by
 have:=List.length_filter_le p (List.range k)
 rwa [List.length_range] at this
def raC (x:Nat × Nat):List PV := [.val (.int .i64 (x.1:Int)),.val (.int .i64 (x.2:Int))]
def rowQ (r:List (Nat × Nat)):List (List PV):=r.map raC
theorem rowQ_len (r:List (Nat × Nat)):(rowQ r).length=r.length:=by simp [rowQ]
theorem rowQ_snoc (r:List (Nat × Nat)) (x:Nat × Nat):rowQ r ++ [[PV.val (.int .i64 (x.1:Int)),.val (.int .i64 (x.2:Int))]]=rowQ (r ++ [x]):=by simp [rowQ,raC]
theorem nilQ:rowQ [] = []:=rfl
def prJ (p:Nat→Nat→Bool) (j k:Nat):List (Nat × Nat):=(rgF (fun i=>p i j) k).map fun i=>(i,j)
def prU (p:Nat→Nat→Bool) (b:Nat→Nat):Nat→List (Nat × Nat)
 | 0 => []
 | j+1=>prU p b j++prJ p j (b j)
theorem prJ_zero (p:Nat→Nat→Bool) (j:Nat):prJ p j 0 = []:=rfl
theorem prJ_succ (p:Nat→Nat→Bool) (j k:Nat):prJ p j (k+1)=prJ p j k++if p k j then [(k,j)] else []:=by
 unfold prJ
 rw [rgF_succ,List.map_append]
 split <;> rfl
theorem z7r (p:Nat→Nat→Bool) (j k:Nat):(prJ p j k).length≤k:=by
 unfold prJ;rw [List.length_map];exact rgF_len _ k
theorem prU_len (p:Nat→Nat→Bool) (b:Nat→Nat) (m:Nat) (hb : ∀ j,b j≤j+1) : ∀ j,j≤m→(prU p b j).length≤j*m
 | 0,_=>by simp [prU]
 | j+1,h=>by
  have h1:=prU_len p b m hb j (by omega)
  have h2:=z7r p j (b j)
  have h3:=hb j
  rw [prU,List.length_append,Nat.add_mul]
  omega
def confL (l:List Ev) (i j:Nat):Bool:=match l[i]?,l[j]? with
 | some a,some b=>z0f a b
 | _,_=>false
theorem z7I {l:List Ev} {i j:Nat} {a b:Ev} (h1:l[i]? = some a) (h2:l[j]? = some b):confL l i j=z0f a b:=by simp [confL,h1,h2]
def hbM (l:List Ev):Nat→Nat→Bool:=fun a b=>hbB l b a
end Go.Proofs.YtbkkginjfnjffaaGreatDoor
