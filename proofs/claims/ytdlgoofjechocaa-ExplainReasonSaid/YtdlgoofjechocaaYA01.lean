/- Texts Ay, Az, Pq, Pr, Pz, Uj, Uo, Up, Us, Ra. -/
import Derived.OpenShut
import Derived.Test.YtdlgoofjechocaaZ13
set_option maxHeartbeats 32000000
set_option maxRecDepth 100000
set_option linter.unusedSimpArgs false
set_option linter.unusedVariables false
namespace Go.Proofs.Ytdlgoofjechocaa
open Go.RowKit Go.Sort Go.Maps
theorem z4S (e n b t:Nat) (o:AO) (R:List (List (List PV))) (h:t<b):zG (mat e n b R) t o=mat e n b R:=by
 unfold zG
 have hk:=z1k e n R b
 rw [List.map_congr_left (g:=id) fun p hp=>by rw [if_neg (by have:=(hk p hp).1;omega)];rfl]
 simp
theorem z3y (e n b t:Nat) (o:AO) (R:List (List (List PV))) (h:t<b):List.map (fun p=>if p.1=t then (t,o) else p) (mat e n b R)=mat e n b R:=z4S e n b t o R h
theorem zk.z3r (fr:List (Nat × AV)) (hfr : ∀ t y,(fr.map fun p=>(p.1,AV.sub (t+1) y p.2))=fr) (n N e0 e:Nat) : ∀ (R:List (List (List PV))) (b:Nat) (pre:List PV),0<b →
  zk ⟨fr,(0,.arow e0 (pre.map .p++owns b R.length)) :: mat e 1 b R,n,N⟩ ⟨fr,[(0,.arow e0 ((pre++R.map (PV.seq 1)).map .p))],n,N⟩
 | [],b,pre,hb=>by simp only [owns,mat,List.length_nil,List.append_nil,List.map_nil];exact zk.refl _
 | r :: R,b,pre,hb=>by
  refine (zk.frz _ b).trans ?_
  have hlk:List.lookup b ((0,AO.arow e0 (pre.map .p++owns b (r :: R).length)) :: mat e 1 b (r :: R))=some (.row e 1 r):=by
   rw [zb (by omega),mat,zi]
  have heq:ASt.frz ⟨fr,(0,.arow e0 (pre.map .p++owns b (r :: R).length)) :: mat e 1 b (r :: R),n,N⟩ b=⟨fr,(0,.arow e0 ((pre ++ [PV.seq 1 r]).map .p++owns (b+1) R.length)) :: mat e 1 (b+1) R,n,N⟩:=by
   unfold ASt.frz
   simp only [hlk,ASt.subst]
   obtain ⟨c,rfl⟩ : ∃ c,b=c+1:=⟨b-1,by omega⟩
   rw [hfr c]
   congr 1
   rw [List.map_cons,List.filter_cons,if_pos (by simp),z4e,mat,List.filter_cons,if_neg (by simp),z6S _ _ _ _ _ (.inl (by omega)),AO.z1T]
   congr 3
   rw [List.length_cons,owns,List.map_append,List.map_cons,z2H _ _ _ _ (.inl (by omega)),List.map_append,List.append_assoc]
   congr 1
   ·rw [List.map_map];exact List.map_congr_left fun x _=>(by simp [AV.sub])
   ·simp [AV.sub]
  rw [heq]
  refine (zk.z3r fr hfr n N e0 e R (b+1) (pre ++ [PV.seq 1 r]) (by omega)).trans (by rw [List.append_assoc];exact zk.refl _)
theorem zk.z8J (fr:List (Nat × AV)) (hfr : ∀ t y,(fr.map fun p=>(p.1,AV.sub (t+1) y p.2))=fr) (n N e0 e b:Nat) (R:List (List (List PV))) (hb : 0<b) :
  zk ⟨fr,(0,.arow e0 (owns b R.length)) :: mat e 1 b R,n,N⟩ ⟨fr,[(0,.row e0 1 (R.map fun r => [.seq 1 r]))],n,N⟩:=by
 refine (zk.z3r fr hfr n N e0 e R b [] hb).trans ?_
 refine (zk.ofA _ 0 e0 (R.map (PV.seq 1)) rfl).trans ?_
 simp only [zG,List.map_cons,List.map_nil,if_true,List.map_map]
 exact zk.refl _
end Go.Proofs.Ytdlgoofjechocaa
namespace Go.Proofs.Ytdlgoofjechocaa
open Go.RowKit Go.Sort
def bvC (b:Bool):List PV := [.val (.bool b)]
def rowR (n:Nat) (g:Nat→Bool):List (List PV):=(List.range n).map fun j=>bvC (g j)
def zP (n:Nat) (f:Nat→Nat→Bool):List (List (List PV)):=(List.range n).map fun i=>rowR n (f i)
theorem qQ (n:Nat) (g:Nat→Bool):(rowR n g).length=n:=by simp [rowR]
theorem z05 (n:Nat) (f:Nat→Nat→Bool):(zP n f).length=n:=by simp [zP]
theorem qX {n j:Nat} (g:Nat→Bool) (h:j<n):(rowR n g)[j]? = some (bvC (g j)):=by
 unfold rowR;rw [List.getElem?_map,List.getElem?_range h];rfl
theorem z0j {n i:Nat} (f:Nat→Nat→Bool) (h:i<n):(zP n f)[i]? = some (rowR n (f i)):=by
 unfold zP;rw [List.getElem?_map,List.getElem?_range h];rfl
def updM (f:Nat→Nat→Bool) (i j:Nat) (b:Bool):Nat→Nat→Bool:=fun x y=>if x=i∧y=j then b else f x y
theorem z2e {n i j:Nat} (f:Nat→Nat→Bool) (b:Bool) (hi:i<n) (hj:j<n):(zP n f).set i ((rowR n (f i)).set j (bvC b))=zP n (updM f i j b):=by
 apply List.ext_getElem?
 intro k
 rw [List.getElem?_set]
 by_cases hk:k<n
 ·rw [z0j _ hk,z0j _ hk]
  by_cases e:i=k
  ·subst e
   rw [if_pos rfl,if_pos (by rw [z05];exact hi)]
   congr 1
   apply List.ext_getElem?
   intro q
   rw [List.getElem?_set]
   by_cases hq:q<n
   ·rw [qX _ hq,qX _ hq]
    by_cases e2:j=q
    ·subst e2;rw [if_pos rfl,if_pos (by rw [qQ];exact hj)];simp [updM]
    ·rw [if_neg e2];simp only [updM,true_and];rw [if_neg (fun h=>e2 h.symm)]
   ·have e2 : ¬ j=q:=by omega
    rw [if_neg e2,List.getElem?_eq_none (by rw [qQ];omega),List.getElem?_eq_none (by rw [qQ];omega)]
  ·rw [if_neg e]
   congr 1
   unfold rowR
   refine List.map_congr_left fun q _=>?_
   simp only [updM]
   rw [if_neg (fun h=>e h.1.symm)]
 ·have e2 : ¬ i=k:=by omega
  rw [if_neg e2,List.getElem?_eq_none (by rw [z05];omega),List.getElem?_eq_none (by rw [z05];omega)]
theorem z2j {n:Nat} {f g:Nat→Nat→Bool} (h : ∀ i j,i<n→j<n→f i j=g i j):zP n f=zP n g:=by
 unfold zP rowR
 refine List.map_congr_left fun i hi=>List.map_congr_left fun j hj=>?_
 rw [h i j (List.mem_range.1 hi) (List.mem_range.1 hj)]
theorem z13 (n:Nat) (b:Bool):rowR n (fun _=>b)=List.replicate n (bvC b):=by
 simp [rowR,List.map_const']
theorem z4w (n:Nat) (b:Bool):zP n (fun _ _=>b)=List.replicate n (List.replicate n (bvC b)):=by
 simp [zP,z13,List.map_const']
def hpM (n:Nat) (f:Nat→Nat→Bool):Hp:=(0,.arow 51 (owns 10 n)) :: mat 4 1 10 (zP n f)
theorem z0b {n:Nat} (f:Nat→Nat→Bool) (hn:n≤1000000) (t:Nat) (o:AO) (h:(hpM n f).lookup t=some o):t<1000010∧o.okB 1000010=true:=by
 unfold hpM at h
 by_cases e:t=0
 ·subst e
  rw [zi] at h;cases h
  exact ⟨by omega,z1Y n 10 1000010 (by omega)⟩
 ·rw [zb e,z0D] at h
  split at h
  ·obtain ⟨r,h1,rfl⟩:=Option.map_eq_some_iff.1 h
   have:=(List.getElem?_eq_some_iff.1 h1).1
   rw [z05] at this
   exact ⟨by omega,rfl⟩
  ·cases h
theorem zk.matD (n:Nat) (f:Nat→Nat→Bool) (q m N:Nat):zk ⟨[(q,.own 0)],hpM n f,m,N⟩ ⟨[(q,.p (.seq 1 ((zP n f).map fun r => [PV.seq 1 r])))],[],m,N⟩:=by
 refine zk.trans (s2:=⟨[(q,.own 0)],(0,.arow 51 (owns 10 (zP n f).length)) :: mat 4 1 10 (zP n f),m,N⟩) (by rw [z05];exact zk.refl _) ?_
 refine (zk.z8J [(q,.own 0)] (fun t y=>by simp [AV.sub]) m N 51 4 10 (zP n f) (by decide)).trans ?_
 refine (zk.frz _ 0).trans ?_
 simp only [ASt.frz,zi,ASt.subst,List.map_cons,List.map_nil,AV.sub,if_true]
 exact zk.refl _
theorem z4E (l:List Ev) (j a:Nat):colB l j j a=false:=by
 unfold colB
 rw [List.any_eq_false]
 intro i hi
 have:=List.mem_range.1 hi
 simp;omega
theorem z8G {α:Type} (l:List α) (p q : α→Bool):(l.any fun x=>p x||q x)=(l.any p||l.any q):=by
 induction l with
 | nil=>rfl
 | cons x r ih=>simp only [List.any_cons,ih];cases p x <;> cases q x <;> simp
theorem z5M (j r:Nat) (c:Bool) (h:r<j):((List.range j).any fun i=>decide (i=r)&&c)=c:=by
 cases c with
 | false=>simp
 | true=>rw [List.any_eq_true];exact ⟨r,List.mem_range.2 h,by simp⟩
theorem z1r (l:List Ev) (j r a:Nat) (h:r<j):colB l j r a=(colB l j (r+1) a||(qi l r j&&(a==r||(decide (a<r)&&hbB l r a)))):=by
 have e:=z5M j r (qi l r j&&(a==r||(decide (a<r)&&hbB l r a))) h
 unfold colB
 rw [← e,← z8G]
 congr 1
 funext i
 by_cases hi:i=r
 ·subst hi;simp;intro h;omega
 ·have:decide (r≤i)=decide (r+1≤i):=by simp;omega
  rw [this];simp [hi]
def stM (l:List Ev) (j:Nat) (g:Nat→Bool):Nat→Nat→Bool:=fun a b=>if b<j then hbB l b a else if b=j then g a else false
def gK (l:List Ev) (j r k:Nat):Nat→Bool:=fun a=>colB l j (r+1) a||(a==r)||(decide (a<k)&&hbB l r a)
theorem z6j (l:List Ev) (n j r:Nat):zP n (updM (stM l j (colB l j (r+1))) r j true)=zP n (stM l j (gK l j r 0)):=by
 congr 1
 funext a b
 simp only [updM,stM,gK]
 by_cases hb:b<j
 ·rw [if_neg (by omega),if_pos hb,if_pos hb]
 ·by_cases hj:b=j
  ·subst hj
   by_cases ha:a=r
   ·subst ha;simp
   ·simp [ha]
  ·rw [if_neg (by omega),if_neg hb,if_neg hb,if_neg hj,if_neg hj]
theorem z8m {l:List Ev} {j r k:Nat} (n:Nat) (hv:hbB l r k=true):zP n (updM (stM l j (gK l j r k)) k j true)=zP n (stM l j (gK l j r (k+1))):=by
 congr 1
 funext a b
 simp only [updM,stM,gK]
 by_cases hb:b<j
 ·rw [if_neg (by omega),if_pos hb,if_pos hb]
 ·by_cases hj:b=j
  ·subst hj
   by_cases ha:a=k
   ·subst ha;simp [hv]
   ·rw [if_neg (fun h=>ha h.1),if_neg hb,if_pos rfl,if_neg hb,if_pos rfl,show decide (a<k+1)=decide (a<k) by simp;omega]
  ·rw [if_neg (by omega),if_neg hb,if_neg hb,if_neg hj,if_neg hj]
theorem st_no {l:List Ev} {j r k:Nat} (n:Nat) (hv:hbB l r k=false):zP n (stM l j (gK l j r k))=zP n (stM l j (gK l j r (k+1))):=by
 congr 1
 funext a b
 simp only [stM,gK]
 by_cases ha:a=k
 ·subst ha;simp [hv]
 ·rw [show decide (a<k+1)=decide (a<k) by simp;omega]
theorem z8K {l:List Ev} {j r:Nat} (n:Nat) (hr:r<j) (h:qi l r j=true):zP n (stM l j (gK l j r r))=zP n (stM l j (colB l j r)):=by
 have:gK l j r r=colB l j r:=by
  funext a
  rw [z1r l j r a hr,gK,h,Bool.true_and,Bool.or_assoc]
 rw [this]
theorem z6e {l:List Ev} {j r:Nat} (n:Nat) (hr:r<j) (h:qi l r j=false):zP n (stM l j (colB l j (r+1)))=zP n (stM l j (colB l j r)):=by
 have:colB l j (r+1)=colB l j r:=by
  funext a
  rw [z1r l j r a hr,h];simp
 rw [this]
theorem z5J (l:List Ev) (n j:Nat):zP n (stM l j (colB l j 0))=zP n (stM l (j+1) fun _=>false):=by
 congr 1
 funext a b
 simp only [stM]
 by_cases hb:b<j
 ·rw [if_pos hb,if_pos (by omega)]
 ·by_cases hj:b=j
  ·subst hj;rw [if_neg hb,if_pos rfl,if_pos (by omega),z8x]
  ·rw [if_neg hb,if_neg hj,if_neg (by omega)];simp
theorem z6A (l:List Ev) (n j:Nat):zP n (stM l j fun _=>false)=zP n (stM l j (colB l j j)):=by
 have:colB l j j=fun _=>false:=by funext a;exact z4E l j a
 rw [this]
theorem z8j (l:List Ev) (n:Nat):zP n (stM l n fun _=>false)=zP n fun a b=>hbB l b a:=by
 refine z2j fun i j hi hj=>?_
 simp only [stM]
 rw [if_pos hj]
theorem z4Q (l:List Ev) (n:Nat):List.replicate n (rowR n fun _=>false)=zP n (stM l 0 fun _=>false):=by
 have:(stM l 0 fun _=>false)=fun _ _=>false:=by funext a b;simp [stM]
 rw [this,z4w,z13]
def arS (n i:Nat):List AV:=owns 10 i++List.replicate (n-i) (.p (.val nilV))
theorem z5Z {n i:Nat} (h:i≤n):(arS n i).length=n:=by simp [arS,qL];omega
theorem z4A {n i:Nat} (h:i<n) (hn:n≤1000000):List.map (AV.ren 1000010 (i+10)) ((arS n i).set i (.own 1000010))=arS n (i+1):=by
 have e1:(arS n i).set i (.own 1000010)=owns 10 i++(.own 1000010 :: List.replicate (n-(i+1)) (.p (.val nilV))):=by
  unfold arS
  rw [List.set_append_right _ _ (by rw [qL];exact Nat.le_refl _),qL,Nat.sub_self,show n-i=(n-(i+1))+1 by omega,List.replicate_succ,List.set_cons_zero]
 rw [e1,List.map_append,List.map_cons,z3I _ _ _ _ (.inr (by omega)) (.inr (by omega)),AV.qK,if_pos rfl,List.map_replicate,AV.z1I,arS,z3i,List.append_assoc]
 rfl
theorem z3q {e:Nat} {cs:List AV} {R:List (List (List PV))} {m:Nat} (h1:cs.all (AV.okB m)=true) (h2 : 10+R.length≤m) (t:Nat) (o:AO) (h:List.lookup t ((0,.arow e cs) :: mat 4 1 10 R)=some o):t<m∧o.okB m=true:=by
 by_cases e:t=0
 ·subst e
  rw [zi] at h;cases h
  exact ⟨by omega,h1⟩
 ·rw [zb e,z0D] at h
  split at h
  ·obtain ⟨r,h1,rfl⟩:=Option.map_eq_some_iff.1 h
   have:=(List.getElem?_eq_some_iff.1 h1).1
   exact ⟨by omega,rfl⟩
  ·cases h
theorem z5o {n i:Nat} (hi:i≤1000000):(arS n i).all (AV.okB 1000010)=true:=by
 unfold arS
 rw [List.all_append,z1Y _ _ _ (by omega),Bool.true_and]
 simp [AV.okB]
theorem z4y (o0:AO) (e n:Nat) (R:List (List (List PV))) (r:List (List PV)) (t:Nat):List.lookup t ((0,o0) :: mat e n 10 (R ++ [r]))=List.lookup t ((R.length+10,.row e n r) :: (0,o0) :: mat e n 10 R):=by
 by_cases h0:t=0
 ·subst h0;rw [zi,zb (by omega),zi]
 ·rw [zb h0]
  by_cases h1:t=R.length+10
  ·subst h1;rw [zi,z0D,if_pos (by omega),Nat.add_sub_cancel,List.getElem?_append_right (Nat.le_refl _),Nat.sub_self];rfl
  ·rw [zb h1,zb h0,z0D,z0D]
   split
   ·by_cases h2:t-10<R.length
    ·rw [List.getElem?_append_left h2]
    ·rw [List.getElem?_eq_none (by simp;omega),List.getElem?_eq_none (by omega)]
   ·rfl
theorem z1R (l:List Ev) (hl:l.length≤1000000):zq Try.prog 27 [.p (.seq 9 (l.map evC))] (.p (.seq 1 ((zP l.length fun a b=>hbB l b a).map fun r => [.seq 1 r]))):=by
 obtain ⟨n,hn⟩ : ∃ n,n=l.length:=⟨_,rfl⟩
 have hml:(n:Int).toNat≤maxLen:=by unfold maxLen;simp;omega
 have hml' : n≤maxLen:=by unfold maxLen;omega
 have hmb : 24*n≤140737488355328:=by omega
 have hmb1 : 1*n≤140737488355328:=by omega
 rw [← hn] at hl ⊢
 refine zq.of Try.func27 rfl 65 rfl (by decide) (by simp [AV.okB]) ?_
 repeat' (first|refine T.zh fun K hK=>?_|refine T.block ?_|(refine T.reg (by kernel_rfl) fun K' hK'=>?_;simp only [bz];(repeat' (first|(with_reducible refine WL.fin ?_;refine hK' _ ?_;clear hK' K')|((with_reducible refine WL.step fun K2 hK2=>?_);simp only [simprocAttr,implies_true,amz,tys,← hn,hml',hmb];(repeat' with_reducible (first|(refine hK2 _ ?_;clear hK2 K2)|refine And.intro ?_ ?_|intro hb))))))|refine T.skip ?_|refine T.exit ?_|refine T.zf rfl ?_|refine T.ze rfl ?_|refine T.cond rfl (fun hc=>?_) (fun hc=>?_)|refine T.ret ?_|simp only [za,z8,reduceIte,Nat.reduceEqDiff]|((repeat ((fail_if_success (refine hK _ ?_));clear hK K));refine hK _ ?_;clear hK K))
 rw [show List.replicate n [PV.val (.slice none 0 0)]=(List.replicate n (PV.val (.slice none 0 0))).map fun x => [x] by simp]
 refine T.weak (zk.toA _ 0 51 _ rfl) ?_
 refine T.weak (zk.upN _ 1000010 (by simp)) ?_
 simp only [zG,List.map_cons,List.map_nil,if_true,List.map_replicate]
 have hR0:rowR n (fun _=>false)=List.replicate n [PV.val (.bool false)]:=z13 n false
 refine T.qc (fun i:Nat=>⟨[(0,.p (.seq 9 (l.map evC))),(2,.p (.val nilV)),(3,.own 0),(4,.int i)],(0,.arow 51 (arS n i)) :: mat 4 1 10 (List.replicate i (rowR n fun _=>false)),65,1000010⟩) (fun i=>i≤n) (fun i=>n-i) 0 (Nat.zero_le _) ?_ ?_
 ·refine zk.frm _ _ _ _ (fun t=>?_) (by simp only [wks,reduceIte,Nat.reduceEqDiff,implies_true,and_self,Int.natCast_zero]) (by simp only [wks,AV.okB,Nat.reduceLT,decide_true,List.all_cons,List.all_nil,Bool.and_self,Int.natCast_zero]) ?_
  ·simp [arS,owns,mat]
  ·exact fun t o h=>z3q (z5o (by omega)) (by simp) t o h
 intro i hi KL hKL
 by_cases hlt:i<n
 ·have hd:decide ((i:Int)<(n:Int))=true:=by simpa using hlt
  have hst:=z4A hlt hl
  have hal:=z5Z (n:=n) (i:=i) (by omega)
  have hz0:(i+10=0)=False:=by simp
  have hne0:List.filter (fun p=>p.1 != 1000010&&p.1 != i+10) (mat 4 1 10 (List.replicate i (rowR n fun _=>false)))=mat 4 1 10 (List.replicate i (rowR n fun _=>false)):=z7N _ _ _ _ _ _ (.inr (by simp;omega)) (.inr (by simp;omega))
  have hz1:(0 != i+10)=true:=by simp
  have hz2:(1000010=i+10)=False:=by simp;omega
  have hz3:(i+10<1000011)=True:=by simp;omega
  repeat' (first|refine T.zh fun K hK=>?_|refine T.block ?_|(refine T.reg (by kernel_rfl) fun K' hK'=>?_;simp only [bz];(repeat' (first|(with_reducible refine WL.fin ?_;refine hK' _ ?_;clear hK' K')|((with_reducible refine WL.step fun K2 hK2=>?_);simp only [simprocAttr,implies_true,amz,tys,← hn,hd,hml',hmb,hmb1,hal,hlt,z3y,z3j];(repeat' with_reducible (first|(refine hK2 _ ?_;clear hK2 K2)|refine And.intro ?_ ?_|intro hb))))))|refine T.skip ?_|refine T.exit ?_|refine T.zf rfl ?_|refine T.ze rfl ?_|refine T.cond rfl (fun hc=>?_) (fun hc=>?_)|refine T.ret ?_|simp only [za,z8,reduceIte,Nat.reduceEqDiff]|((repeat ((fail_if_success (refine hK _ ?_));clear hK K));refine hK _ ?_;clear hK K))
  have hrep:mat 4 1 10 (List.replicate (i+1) (rowR n fun _=>false))=mat 4 1 10 (List.replicate i (rowR n fun _=>false) ++ [List.replicate n [PV.val (.bool false)]]):=by rw [List.replicate_succ',hR0]
  refine hKL _ (i+1) ((zk.ren _ 1000010 (i+10)).trans ?_) (by omega) (by omega)
  rw [hrep]
  simp only [ASt.ren,AV.qK,AV.z0p,AV.z06,AV.z0C,AV.z1I,AV.z0F,AV.z0a,AV.z08,AV.z1p,AV.z0E,AV.z0G,AO.z0O,AO.z0c,AO.z10,AO.z0W,List.map_cons,List.map_nil,List.filter_cons,List.filter_nil,zx,qf,reduceIte,Nat.reduceEqDiff,Nat.reduceLT,Nat.reduceBneDiff,bne_self_eq_false,Bool.and_true,Bool.and_false,Bool.true_and,Bool.false_and,Bool.and_self,Bool.false_eq_true,ne_eq,not_false_eq_true,not_true_eq_false,and_self,and_true,true_and,and_false,AO.z2G,hz0,hne0,hz1,hz2,hz3,z7r,hst]
  refine zk.frm _ _ _ _ (fun t=>?_) (by simp only [wks,reduceIte,Nat.reduceEqDiff,implies_true,and_self,zm (show i<1152921504606846976 by omega)]) (by simp only [wks,AV.okB,Nat.reduceLT,decide_true,List.all_cons,List.all_nil,Bool.and_self,zm (show i<1152921504606846976 by omega)]) ?_
  ·rw [z4y,List.length_replicate]
  ·exact fun t o h=>z3q (z5o (by omega)) (by simp;omega) t o h
 ·have hd:decide ((i:Int)<(n:Int))=false:=by simpa using hlt
  have hin:n=i:=by omega
  subst hin
  repeat' (first|refine T.zh fun K hK=>?_|refine T.block ?_|(refine T.reg (by kernel_rfl) fun K' hK'=>?_;simp only [bz];(repeat' (first|(with_reducible refine WL.fin ?_;refine hK' _ ?_;clear hK' K')|((with_reducible refine WL.step fun K2 hK2=>?_);simp only [simprocAttr,implies_true,amz,tys,← hn,hd];(repeat' with_reducible (first|(refine hK2 _ ?_;clear hK2 K2)|refine And.intro ?_ ?_|intro hb))))))|refine T.skip ?_|refine T.exit ?_|refine T.zf rfl ?_|refine T.ze rfl ?_|refine T.cond rfl (fun hc=>?_) (fun hc=>?_)|refine T.ret ?_|simp only [za,z8,reduceIte,Nat.reduceEqDiff]|((repeat ((fail_if_success (refine hK _ ?_));clear hK K));refine hK _ ?_;clear hK K))
  refine T.qc (fun j:Nat=>⟨[(0,.p (.seq 9 (l.map evC))),(2,.p (.val nilV)),(3,.own 0),(5,.int j)],hpM n (stM l j fun _=>false),65,1000010⟩) (fun j=>j≤n) (fun j=>n-j) 0 (Nat.zero_le _) ?_ ?_
  ·refine zk.frm _ _ _ _ (fun t=>?_) (by simp only [wks,reduceIte,Nat.reduceEqDiff,implies_true,and_self,Int.natCast_zero]) (by simp only [wks,AV.okB,Nat.reduceLT,decide_true,List.all_cons,List.all_nil,Bool.and_self,Int.natCast_zero]) ?_
   ·rw [hpM,← z4Q,show arS n n=owns 10 n by simp [arS]]
   ·exact fun t o h=>z0b _ hl t o h
  intro j hj KL2 hKL2
  by_cases hjn:j<n
  ·have hdj:decide ((j:Int)<(n:Int))=true:=by simpa using hjn
   have hw1:IntKind.i64.wrap ((j:Int)-1)=(j:Int)-1:=by rw [IntKind.wrap_i64];omega
   obtain ⟨y,hy⟩:=zT (show j<l.length by omega)
   repeat' (first|refine T.zh fun K hK=>?_|refine T.block ?_|(refine T.reg (by kernel_rfl) fun K' hK'=>?_;simp only [bz];(repeat' (first|(with_reducible refine WL.fin ?_;refine hK' _ ?_;clear hK' K')|((with_reducible refine WL.step fun K2 hK2=>?_);simp only [simprocAttr,implies_true,amz,tys,← hn,hdj,hw1];(repeat' with_reducible (first|(refine hK2 _ ?_;clear hK2 K2)|refine And.intro ?_ ?_|intro hb))))))|refine T.skip ?_|refine T.exit ?_|refine T.zf rfl ?_|refine T.ze rfl ?_|refine T.cond rfl (fun hc=>?_) (fun hc=>?_)|refine T.ret ?_|simp only [za,z8,reduceIte,Nat.reduceEqDiff]|((repeat ((fail_if_success (refine hK _ ?_));clear hK K));refine hK _ ?_;clear hK K))
   refine T.qc (fun r:Nat=>⟨[(0,.p (.seq 9 (l.map evC))),(2,.p (.val nilV)),(3,.own 0),(5,.int j),(6,.int ((r:Int)-1))],hpM n (stM l j (colB l j r)),65,1000010⟩) (fun r=>r≤j) (fun r=>r) j (Nat.le_refl _) ?_ ?_
   ·refine zk.frm _ _ _ _ (fun t=>?_) (by simp only [wks,reduceIte,Nat.reduceEqDiff,implies_true,and_self,]) (by simp only [wks,AV.okB,Nat.reduceLT,decide_true,List.all_cons,List.all_nil,Bool.and_self,]) ?_
    ·rw [hpM,hpM,z6A]
    ·exact fun t o h=>z0b _ hl t o h
   intro r hr KL3 hKL3
   rcases r with _|r
   ·have hd3:decide ((0:Int)≤((0:Nat):Int)-1)=false:=by decide
    repeat' (first|refine T.zh fun K hK=>?_|refine T.block ?_|(refine T.reg (by kernel_rfl) fun K' hK'=>?_;simp only [bz];(repeat' (first|(with_reducible refine WL.fin ?_;refine hK' _ ?_;clear hK' K')|((with_reducible refine WL.step fun K2 hK2=>?_);simp only [simprocAttr,implies_true,amz,tys,← hn,hd3];(repeat' with_reducible (first|(refine hK2 _ ?_;clear hK2 K2)|refine And.intro ?_ ?_|intro hb))))))|refine T.skip ?_|refine T.exit ?_|refine T.zf rfl ?_|refine T.ze rfl ?_|refine T.cond rfl (fun hc=>?_) (fun hc=>?_)|refine T.ret ?_|simp only [za,z8,reduceIte,Nat.reduceEqDiff]|((repeat ((fail_if_success (refine hK _ ?_));clear hK K));refine hK _ ?_;clear hK K))
    refine hKL2 _ (j+1) ?_ (by omega) (by omega)
    refine zk.frm _ _ _ _ (fun t=>?_) (by simp only [wks,reduceIte,Nat.reduceEqDiff,implies_true,and_self,zm (show j<1152921504606846976 by omega)]) (by simp only [wks,AV.okB,Nat.reduceLT,decide_true,List.all_cons,List.all_nil,Bool.and_self,zm (show j<1152921504606846976 by omega)]) ?_
    ·rw [hpM,hpM,z5J]
    ·exact fun t o h=>z0b _ hl t o h
   ·have hr1:(((r+1:Nat):Int)-1)=(r:Int):=by omega
    have hwr:IntKind.i64.wrap ((r:Int)-1)=(r:Int)-1:=by rw [IntKind.wrap_i64];omega
    rw [hr1]
    obtain ⟨x,hx⟩:=zT (show r<l.length by omega)
    have himm:=z6K l r j x y hx hy (by omega) (by omega)
    have hiL:=z6v hx hy
    cases hb:immB l x y r j with
    | false =>
     rw [hb] at himm hiL
     repeat' (first|refine T.zh fun K hK=>?_|refine T.block ?_|(refine T.reg (by kernel_rfl) fun K' hK'=>?_;simp only [bz];(repeat' (first|(with_reducible refine WL.fin ?_;refine hK' _ ?_;clear hK' K')|((with_reducible refine WL.step fun K2 hK2=>?_);simp only [simprocAttr,implies_true,amz,tys,← hn,hwr,decide_true];(repeat' (first|with_reducible (first|(refine hK2 _ ?_;clear hK2 K2)|refine And.intro ?_ ?_|intro hb)|((first|(with_reducible apply zg)|(with_reducible apply zl));case h=>exact CallV.plain (Ent.of Try.func30 (by kernel_rfl) rfl) (himm) (by simp [AV.okB]))))))))|refine T.skip ?_|refine T.exit ?_|refine T.zf rfl ?_|refine T.ze rfl ?_|refine T.cond rfl (fun hc=>?_) (fun hc=>?_)|refine T.ret ?_|simp only [za,z8,reduceIte,Nat.reduceEqDiff]|((repeat ((fail_if_success (refine hK _ ?_));clear hK K));refine hK _ ?_;clear hK K))
     refine hKL3 _ r ?_ (by omega) (by omega)
     refine zk.frm _ _ _ _ (fun t=>?_) (by simp only [wks,reduceIte,Nat.reduceEqDiff,implies_true,and_self,]) (by simp only [wks,AV.okB,Nat.reduceLT,decide_true,List.all_cons,List.all_nil,Bool.and_self,]) ?_
     ·rw [hpM,hpM,z6e n (by omega) hiL]
     ·exact fun t o h=>z0b _ hl t o h
    | true =>
     rw [hb] at himm hiL
     have hrn:r<n:=by omega
     obtain ⟨f,hf⟩ : ∃ f,f=stM l j (colB l j (r+1)):=⟨_,rfl⟩
     rw [← hf]
     simp only [hpM]
     have o1:=z0L n 10 r hrn
     have o2:=qL n 10
     have m1:=z0j f hrn
     have m2:=qX (f r) hjn
     have m3:=qQ n (f r)
     have m4:List.set (zP n f) r (List.set (rowR n (f r)) j [PV.val (.bool true)])=zP n (updM f r j true):=z2e f true hrn hjn
     have hz0:(r+10=0)=False:=by simp
     repeat' (first|refine T.zh fun K hK=>?_|refine T.block ?_|(refine T.reg (by kernel_rfl) fun K' hK'=>?_;simp only [bz];(repeat' (first|(with_reducible refine WL.fin ?_;refine hK' _ ?_;clear hK' K')|((with_reducible refine WL.step fun K2 hK2=>?_);simp only [simprocAttr,implies_true,amz,tys,← hn,hwr,decide_true,o1,o2,hrn,hjn,hz0,z2o,m1,bvC,m2,m3,z2M,m4];(repeat' (first|with_reducible (first|(refine hK2 _ ?_;clear hK2 K2)|refine And.intro ?_ ?_|intro hb)|((first|(with_reducible apply zg)|(with_reducible apply zl));case h=>exact CallV.plain (Ent.of Try.func30 (by kernel_rfl) rfl) (himm) (by simp [AV.okB]))))))))|refine T.skip ?_|refine T.exit ?_|refine T.zf rfl ?_|refine T.ze rfl ?_|refine T.cond rfl (fun hc=>?_) (fun hc=>?_)|refine T.ret ?_|simp only [za,z8,reduceIte,Nat.reduceEqDiff]|((repeat ((fail_if_success (refine hK _ ?_));clear hK K));refine hK _ ?_;clear hK K))
     refine T.qc (fun k:Nat=>⟨[(0,.p (.seq 9 (l.map evC))),(2,.p (.val nilV)),(3,.own 0),(5,.int j),(6,.int r),(7,.int k)],hpM n (stM l j (gK l j r k)),65,1000010⟩) (fun k=>k≤r) (fun k=>r-k) 0 (Nat.zero_le _) ?_ ?_
     ·refine zk.frm _ _ _ _ (fun t=>?_) (by simp only [wks,reduceIte,Nat.reduceEqDiff,implies_true,and_self,Int.natCast_zero]) (by simp only [wks,AV.okB,Nat.reduceLT,decide_true,List.all_cons,List.all_nil,Bool.and_self,Int.natCast_zero]) ?_
      ·rw [hpM,hf,z6j]
      ·exact fun t o h=>z0b _ hl t o h
     intro k hk KL4 hKL4
     by_cases hkr:k<r
     ·have hdk:decide ((k:Int)<(r:Int))=true:=by simpa using hkr
      have hkn:k<n:=by omega
      have hval:stM l j (gK l j r k) k r=hbB l r k:=by simp only [stM];rw [if_pos (by omega)]
      cases hv:hbB l r k with
      | false =>
       obtain ⟨g,hg⟩ : ∃ g,g=stM l j (gK l j r k):=⟨_,rfl⟩
       rw [← hg,hv] at hval
       rw [← hg]
       simp only [hpM]
       have o1:=z0L n 10 k hkn
       have m1:=z0j g hkn
       have m2:=qX (g k) hrn
       have m3:=qQ n (g k)
       have hz0:(k+10=0)=False:=by simp
       repeat' (first|refine T.zh fun K hK=>?_|refine T.block ?_|(refine T.reg (by kernel_rfl) fun K' hK'=>?_;simp only [bz];(repeat' (first|(with_reducible refine WL.fin ?_;refine hK' _ ?_;clear hK' K')|((with_reducible refine WL.step fun K2 hK2=>?_);simp only [simprocAttr,implies_true,amz,tys,← hn,hdk,o1,o2,hkn,hrn,hjn,hz0,z2o,m1,bvC,m2,m3,hval];(repeat' with_reducible (first|(refine hK2 _ ?_;clear hK2 K2)|refine And.intro ?_ ?_|intro hb))))))|refine T.skip ?_|refine T.exit ?_|refine T.zf rfl ?_|refine T.ze rfl ?_|refine T.cond rfl (fun hc=>?_) (fun hc=>?_)|refine T.ret ?_|simp only [za,z8,reduceIte,Nat.reduceEqDiff]|((repeat ((fail_if_success (refine hK _ ?_));clear hK K));refine hK _ ?_;clear hK K))
       refine hKL4 _ (k+1) ?_ (by omega) (by omega)
       refine zk.frm _ _ _ _ (fun t=>?_) (by simp only [wks,reduceIte,Nat.reduceEqDiff,implies_true,and_self,zm (show k<1152921504606846976 by omega)]) (by simp only [wks,AV.okB,Nat.reduceLT,decide_true,List.all_cons,List.all_nil,Bool.and_self,zm (show k<1152921504606846976 by omega)]) ?_
       ·rw [hpM,hg,st_no n hv]
       ·exact fun t o h=>z0b _ hl t o h
      | true =>
       obtain ⟨g,hg⟩ : ∃ g,g=stM l j (gK l j r k):=⟨_,rfl⟩
       rw [← hg,hv] at hval
       rw [← hg]
       simp only [hpM]
       have o1:=z0L n 10 k hkn
       have m1:=z0j g hkn
       have m2:=qX (g k) hrn
       have m5:=qX (g k) hjn
       have m3:=qQ n (g k)
       have m4:List.set (zP n g) k (List.set (rowR n (g k)) j [PV.val (.bool true)])=zP n (updM g k j true):=z2e g true hkn hjn
       have hz0:(k+10=0)=False:=by simp
       repeat' (first|refine T.zh fun K hK=>?_|refine T.block ?_|(refine T.reg (by kernel_rfl) fun K' hK'=>?_;simp only [bz];(repeat' (first|(with_reducible refine WL.fin ?_;refine hK' _ ?_;clear hK' K')|((with_reducible refine WL.step fun K2 hK2=>?_);simp only [simprocAttr,implies_true,amz,tys,← hn,hdk,o1,o2,hkn,hrn,hjn,hz0,z2o,m1,bvC,m2,m3,m5,hval,z2M,m4];(repeat' with_reducible (first|(refine hK2 _ ?_;clear hK2 K2)|refine And.intro ?_ ?_|intro hb))))))|refine T.skip ?_|refine T.exit ?_|refine T.zf rfl ?_|refine T.ze rfl ?_|refine T.cond rfl (fun hc=>?_) (fun hc=>?_)|refine T.ret ?_|simp only [za,z8,reduceIte,Nat.reduceEqDiff]|((repeat ((fail_if_success (refine hK _ ?_));clear hK K));refine hK _ ?_;clear hK K))
       refine hKL4 _ (k+1) ?_ (by omega) (by omega)
       refine zk.frm _ _ _ _ (fun t=>?_) (by simp only [wks,reduceIte,Nat.reduceEqDiff,implies_true,and_self,zm (show k<1152921504606846976 by omega)]) (by simp only [wks,AV.okB,Nat.reduceLT,decide_true,List.all_cons,List.all_nil,Bool.and_self,zm (show k<1152921504606846976 by omega)]) ?_
       ·rw [hpM,hg,z8m n hv]
       ·exact fun t o h=>z0b _ hl t o h
     ·have hdk:decide ((k:Int)<(r:Int))=false:=by simpa using hkr
      have hkr' : r=k:=by omega
      subst hkr'
      repeat' (first|refine T.zh fun K hK=>?_|refine T.block ?_|(refine T.reg (by kernel_rfl) fun K' hK'=>?_;simp only [bz];(repeat' (first|(with_reducible refine WL.fin ?_;refine hK' _ ?_;clear hK' K')|((with_reducible refine WL.step fun K2 hK2=>?_);simp only [simprocAttr,implies_true,amz,tys,← hn,hdk,hwr];(repeat' with_reducible (first|(refine hK2 _ ?_;clear hK2 K2)|refine And.intro ?_ ?_|intro hb))))))|refine T.skip ?_|refine T.exit ?_|refine T.zf rfl ?_|refine T.ze rfl ?_|refine T.cond rfl (fun hc=>?_) (fun hc=>?_)|refine T.ret ?_|simp only [za,z8,reduceIte,Nat.reduceEqDiff]|((repeat ((fail_if_success (refine hK _ ?_));clear hK K));refine hK _ ?_;clear hK K))
      refine hKL3 _ r ?_ (by omega) (by omega)
      refine zk.frm _ _ _ _ (fun t=>?_) (by simp only [wks,reduceIte,Nat.reduceEqDiff,implies_true,and_self,]) (by simp only [wks,AV.okB,Nat.reduceLT,decide_true,List.all_cons,List.all_nil,Bool.and_self,]) ?_
      ·rw [hpM,hpM,z8K n (by omega) hiL]
      ·exact fun t o h=>z0b _ hl t o h
  ·have hdj:decide ((j:Int)<(n:Int))=false:=by simpa using hjn
   have hin:n=j:=by omega
   subst hin
   repeat' (first|refine T.zh fun K hK=>?_|refine T.block ?_|(refine T.reg (by kernel_rfl) fun K' hK'=>?_;simp only [bz];(repeat' (first|(with_reducible refine WL.fin ?_;refine hK' _ ?_;clear hK' K')|((with_reducible refine WL.step fun K2 hK2=>?_);simp only [simprocAttr,implies_true,amz,tys,← hn,hdj];(repeat' with_reducible (first|(refine hK2 _ ?_;clear hK2 K2)|refine And.intro ?_ ?_|intro hb))))))|refine T.skip ?_|refine T.exit ?_|refine T.zf rfl ?_|refine T.ze rfl ?_|refine T.cond rfl (fun hc=>?_) (fun hc=>?_)|refine T.ret ?_|simp only [za,z8,reduceIte,Nat.reduceEqDiff]|((repeat ((fail_if_success (refine hK _ ?_));clear hK K));refine hK _ ?_;clear hK K))
   refine zy.retW (.inr rfl) Try.results27 (zk.trans (s2:=⟨[(2,.own 0)],hpM n fun a b=>hbB l b a,65,1000010⟩) ?_ (zk.matD _ _ _ _ _)) ?_
   ·refine zk.frm _ _ _ _ (fun t=>?_) (by simp only [wks,reduceIte,Nat.reduceEqDiff,implies_true,and_self,]) (by simp only [wks,AV.okB,Nat.reduceLT,decide_true,List.all_cons,List.all_nil,Bool.and_self,]) ?_
    ·rw [hpM,hpM,z8j]
    ·exact fun t o h=>z0b _ hl t o h
   ·simp only [zu,zo,zn,simprocAttr,implies_true,amz,tys]
end Go.Proofs.Ytdlgoofjechocaa
namespace Go.Proofs.Ytdlgoofjechocaa
open Go.RowKit Go.Sort Go.Maps
def hbM (l:List Ev):Nat→Nat→Bool:=fun a b=>hbB l b a
theorem coneR_ok (l:List Ev) (hl:l.length≤100000) (j:Int):zq Try.prog 24 [.p (.seq 9 (l.map evC)),.int j] (.p (.seq 1 (qw (z1z l j)))):=by
 have hv:=z1u l (by omega)
 have hnil : ∀ s:ASt,s.get 4 = .p (.val (.slice none 0 0))→z1z l j = []→s.n=43→zy Try.prog Try.f24 (.p (.seq 1 (qw (z1z l j)))) .ret s:=fun s hs hc hn=>by
  refine zy.retW (.inr rfl) Try.results24 (s':=⟨[(4,.p (.seq 1 []))],[],43,0⟩) (zk.of' hn.symm ⟨fun p hp=>?_,fun p hp=>(by cases hp),by simp [ASt.okB,AV.okB]⟩) ?_
  ·rw [List.mem_singleton.1 hp];simp only [hs];exact AVle.nil 1
  ·rw [hc];simp only [zu,zo,zn,nilI,simprocAttr,implies_true,amz,tys]
 cases h5:(qx l).2 with
 | false =>
  rw [h5] at hv
  refine zq.of Try.func24 rfl 43 rfl (by decide) (by simp [AV.okB]) ?_
  repeat' (first|refine T.zh fun K hK=>?_|refine T.block ?_|(refine T.reg (by kernel_rfl) fun K' hK'=>?_;simp only [bz];(repeat' (first|(with_reducible refine WL.fin ?_;refine hK' _ ?_;clear hK' K')|((with_reducible refine WL.step fun K2 hK2=>?_);simp only [simprocAttr,implies_true,amz,tys];(repeat' (first|with_reducible (first|(refine hK2 _ ?_;clear hK2 K2)|refine And.intro ?_ ?_|intro hb)|((first|(with_reducible apply zg)|(with_reducible apply zl));case h=>exact CallV.plain (Ent.of Try.func13 (by kernel_rfl) rfl) (hv) (by simp [AV.okB]))))))))|refine T.skip ?_|refine T.exit ?_|refine T.zf rfl ?_|refine T.ze rfl ?_|refine T.cond rfl (fun hc=>?_) (fun hc=>?_)|refine T.ret ?_|simp only [za,z8,reduceIte,Nat.reduceEqDiff]|((repeat ((fail_if_success (refine hK _ ?_));clear hK K));refine hK _ ?_;clear hK K))
  all_goals exact hnil _ rfl (by simp [z1z,h5]) rfl
 | true =>
  rw [h5] at hv
  cases h2:decide (j<0) with
  | true =>
   refine zq.of Try.func24 rfl 43 rfl (by decide) (by simp [AV.okB]) ?_
   repeat' (first|refine T.zh fun K hK=>?_|refine T.block ?_|(refine T.reg (by kernel_rfl) fun K' hK'=>?_;simp only [bz];(repeat' (first|(with_reducible refine WL.fin ?_;refine hK' _ ?_;clear hK' K')|((with_reducible refine WL.step fun K2 hK2=>?_);simp only [simprocAttr,implies_true,amz,tys,h2];(repeat' (first|with_reducible (first|(refine hK2 _ ?_;clear hK2 K2)|refine And.intro ?_ ?_|intro hb)|((first|(with_reducible apply zg)|(with_reducible apply zl));case h=>exact CallV.plain (Ent.of Try.func13 (by kernel_rfl) rfl) (hv) (by simp [AV.okB]))))))))|refine T.skip ?_|refine T.exit ?_|refine T.zf rfl ?_|refine T.ze rfl ?_|refine T.cond rfl (fun hc=>?_) (fun hc=>?_)|refine T.ret ?_|simp only [za,z8,reduceIte,Nat.reduceEqDiff]|((repeat ((fail_if_success (refine hK _ ?_));clear hK K));refine hK _ ?_;clear hK K))
   all_goals exact hnil _ rfl (by simp [z1z,h2]) rfl
  | false =>
   cases h4:decide ((l.length:Int)≤j) with
   | true =>
    refine zq.of Try.func24 rfl 43 rfl (by decide) (by simp [AV.okB]) ?_
    repeat' (first|refine T.zh fun K hK=>?_|refine T.block ?_|(refine T.reg (by kernel_rfl) fun K' hK'=>?_;simp only [bz];(repeat' (first|(with_reducible refine WL.fin ?_;refine hK' _ ?_;clear hK' K')|((with_reducible refine WL.step fun K2 hK2=>?_);simp only [simprocAttr,implies_true,amz,tys,h2,h4];(repeat' (first|with_reducible (first|(refine hK2 _ ?_;clear hK2 K2)|refine And.intro ?_ ?_|intro hb)|((first|(with_reducible apply zg)|(with_reducible apply zl));case h=>exact CallV.plain (Ent.of Try.func13 (by kernel_rfl) rfl) (hv) (by simp [AV.okB]))))))))|refine T.skip ?_|refine T.exit ?_|refine T.zf rfl ?_|refine T.ze rfl ?_|refine T.cond rfl (fun hc=>?_) (fun hc=>?_)|refine T.ret ?_|simp only [za,z8,reduceIte,Nat.reduceEqDiff]|((repeat ((fail_if_success (refine hK _ ?_));clear hK K));refine hK _ ?_;clear hK K))
    all_goals exact hnil _ rfl (by simp [z1z,h4]) rfl
   | false =>
    have hc:zq Try.prog 27 [.p (.seq 9 (l.map evC))] (.p (.seq 1 ((zP l.length (hbM l)).map fun r => [.seq 1 r]))):=z1R l (by omega)
    have hres:z1z l j=rgF (hbB l j.toNat) j.toNat ++ [j.toNat]:=by simp only [z1z,h2,h4,h5,Bool.not_false,Bool.true_and,if_true]
    rw [hres]
    clear hres hnil
    simp only [decide_eq_false_iff_not] at h2 h4
    obtain ⟨b,rfl⟩ : ∃ b:Nat,j=b:=⟨j.toNat,by omega⟩
    simp only [Int.toNat_natCast]
    have hb:b<l.length:=by omega
    have d2:decide ((b:Int)<0)=false:=by simp
    have d4:decide ((l.length:Int)≤(b:Int))=false:=by simp;omega
    have hm0 : 1≤maxLen:=by unfold maxLen;omega
    refine zq.of Try.func24 rfl 43 rfl (by decide) (by simp [AV.okB]) ?_
    repeat' (first|refine T.zh fun K hK=>?_|refine T.block ?_|(refine T.reg (by kernel_rfl) fun K' hK'=>?_;simp only [bz];(repeat' (first|(with_reducible refine WL.fin ?_;refine hK' _ ?_;clear hK' K')|((with_reducible refine WL.step fun K2 hK2=>?_);simp only [simprocAttr,implies_true,amz,tys,d2,d4];(repeat' (first|with_reducible (first|(refine hK2 _ ?_;clear hK2 K2)|refine And.intro ?_ ?_|intro hb)|((first|(with_reducible apply zg)|(with_reducible apply zl));case h=>exact CallV.plain (Ent.of Try.func13 (by kernel_rfl) rfl) (hv) (by simp [AV.okB]))|((first|(with_reducible apply zg)|(with_reducible apply zl));case h=>exact CallV.plain (Ent.of Try.func27 (by kernel_rfl) rfl) (hc) (by simp [AV.okB]))))))))|refine T.skip ?_|refine T.exit ?_|refine T.zf rfl ?_|refine T.ze rfl ?_|refine T.cond rfl (fun hc=>?_) (fun hc=>?_)|refine T.ret ?_|simp only [za,z8,reduceIte,Nat.reduceEqDiff]|((repeat ((fail_if_success (refine hK _ ?_));clear hK K));refine hK _ ?_;clear hK K))
    refine T.weak (zk.z5N _ 6 3 1 (show 6<43 by decide) rfl) ?_;simp only [ASt.add,zH,Nat.reduceAdd]
    refine T.qc (fun k:Nat=>⟨[(1,.int b),(5,.p (.seq 1 ((zP l.length (hbM l)).map fun r => [PV.seq 1 r]))),(6,.own 0),(7,.int k)],[(0,.row 3 1 (qw (rgF (hbB l b) k)))],43,1⟩) (fun k=>k≤b) (fun k=>b-k) 0 (Nat.zero_le _) (by refine zk.of' rfl ?_;simp only [wks,reduceIte,Nat.reduceEqDiff,ASt.okB,AV.okB,Nat.reduceLT,implies_true,Int.natCast_zero,z7M,nilI]) ?_
    intro k hk KL hKL
    have hlen:=z3d (hbB l b) k
    have hm1:(rgF (hbB l b) k).length+1≤maxLen:=by unfold maxLen;omega
    have hm2:((rgF (hbB l b) k).length+1)*8≤140737488355328:=by omega
    by_cases hkb:k<b
    ·have hd:decide ((k:Int)<(b:Int))=true:=by simpa using hkb
     have m1:=z0j (hbM l) (show k<l.length by omega)
     have m2:=qX (hbM l k) hb
     cases hv2:hbB l b k with
     | true =>
      rw [show hbM l k b=true from hv2] at m2
      repeat' (first|refine T.zh fun K hK=>?_|refine T.block ?_|(refine T.reg (by kernel_rfl) fun K' hK'=>?_;simp only [bz];(repeat' (first|(with_reducible refine WL.fin ?_;refine hK' _ ?_;clear hK' K')|((with_reducible refine WL.step fun K2 hK2=>?_);simp only [simprocAttr,implies_true,amz,tys,hd,m1,m2,bvC,qJ,hm0,hm1,hm2];(repeat' with_reducible (first|(refine hK2 _ ?_;clear hK2 K2)|refine And.intro ?_ ?_|intro hb))))))|refine T.skip ?_|refine T.exit ?_|refine T.zf rfl ?_|refine T.ze rfl ?_|refine T.cond rfl (fun hc=>?_) (fun hc=>?_)|refine T.ret ?_|simp only [za,z8,reduceIte,Nat.reduceEqDiff]|((repeat ((fail_if_success (refine hK _ ?_));clear hK K));refine hK _ ?_;clear hK K))
      refine hKL _ (k+1) ?_ (by omega) (by omega)
      rw [z0T,hv2,if_pos rfl,← z0S]
      refine zk.of' rfl ?_;simp only [wks,reduceIte,Nat.reduceEqDiff,ASt.okB,AV.okB,Nat.reduceLT,implies_true,zm (show k<1152921504606846976 by omega)]
     | false =>
      rw [show hbM l k b=false from hv2] at m2
      repeat' (first|refine T.zh fun K hK=>?_|refine T.block ?_|(refine T.reg (by kernel_rfl) fun K' hK'=>?_;simp only [bz];(repeat' (first|(with_reducible refine WL.fin ?_;refine hK' _ ?_;clear hK' K')|((with_reducible refine WL.step fun K2 hK2=>?_);simp only [simprocAttr,implies_true,amz,tys,hd,m1,m2,bvC,qJ,hm0,hm1,hm2];(repeat' with_reducible (first|(refine hK2 _ ?_;clear hK2 K2)|refine And.intro ?_ ?_|intro hb))))))|refine T.skip ?_|refine T.exit ?_|refine T.zf rfl ?_|refine T.ze rfl ?_|refine T.cond rfl (fun hc=>?_) (fun hc=>?_)|refine T.ret ?_|simp only [za,z8,reduceIte,Nat.reduceEqDiff]|((repeat ((fail_if_success (refine hK _ ?_));clear hK K));refine hK _ ?_;clear hK K))
      refine hKL _ (k+1) ?_ (by omega) (by omega)
      rw [z0T,hv2,if_neg (by simp),List.append_nil]
      refine zk.of' rfl ?_;simp only [wks,reduceIte,Nat.reduceEqDiff,ASt.okB,AV.okB,Nat.reduceLT,implies_true,zm (show k<1152921504606846976 by omega)]
    ·have hd:decide ((k:Int)<(b:Int))=false:=by simpa using hkb
     have hke:k=b:=by omega
     subst hke
     repeat' (first|refine T.zh fun K hK=>?_|refine T.block ?_|(refine T.reg (by kernel_rfl) fun K' hK'=>?_;simp only [bz];(repeat' (first|(with_reducible refine WL.fin ?_;refine hK' _ ?_;clear hK' K')|((with_reducible refine WL.step fun K2 hK2=>?_);simp only [simprocAttr,implies_true,amz,tys,hd,hm0,hm1,hm2,qJ];(repeat' with_reducible (first|(refine hK2 _ ?_;clear hK2 K2)|refine And.intro ?_ ?_|intro hb))))))|refine T.skip ?_|refine T.exit ?_|refine T.zf rfl ?_|refine T.ze rfl ?_|refine T.cond rfl (fun hc=>?_) (fun hc=>?_)|refine T.ret ?_|simp only [za,z8,reduceIte,Nat.reduceEqDiff]|((repeat ((fail_if_success (refine hK _ ?_));clear hK K));refine hK _ ?_;clear hK K))
     rw [← z0S]
     refine zy.retW (.inr rfl) Try.results24 (zk.frz _ 0) ?_;simp only [zu,zo,zn,ASt.frz,ASt.subst,AO.z3a,AO.z4m,AO.z5a,AO.z5l,AO.z2K,AV.z8l,AV.z5b,AV.z4f,AV.z3G,AV.z3w,AV.z2Q,AV.z3O,AV.z3n,AV.z5r,AV.z2J,List.filter_cons,List.filter_nil,bne_self_eq_false,Nat.reduceBneDiff,Nat.reduceEqDiff,Bool.false_eq_true,simprocAttr,implies_true,amz,tys]
end Go.Proofs.Ytdlgoofjechocaa
namespace Go.Proofs.Ytdlgoofjechocaa
open Go.RowKit Go.Sort
theorem z4z (l:List Ev) (i j:Int) (hl:l.length≤100000):zq Try.prog 22 [.p (.seq 9 (l.map evC)),.int i,.int j] (.bool (plcB l i j)):=by
 have hv:=z1u l (by omega)
 have hlm:(l.map evC).length=l.length:=by simp
 unfold plcB
 generalize (qx l).2=b at hv
 cases d1:decide (i<0) <;> cases d2:decide (j≤i) <;> cases d3:decide ((l.length:Int)≤j)
 all_goals (have e1:decide ((0:Int)≤i) = !decide (i<0):=(by rw [Bool.eq_iff_iff];simp);have e2:decide (i<j) = !decide (j≤i):=(by rw [Bool.eq_iff_iff];simp);have e3:decide (j<(l.length:Int)) = !decide ((l.length:Int)≤j):=(by rw [Bool.eq_iff_iff];simp);rw [d1] at e1;rw [d2] at e2;rw [d3] at e3;simp only [Bool.not_true,Bool.not_false,Bool.and_true,Bool.and_false] at e1 e2 e3 ⊢)
 all_goals (refine zq.of Try.func22 rfl 24 rfl (by decide) (by simp [AV.okB]) ?_)
 all_goals (repeat' (first|refine T.zh fun K hK=>?_|refine T.block ?_|(refine T.reg (by kernel_rfl) fun K' hK'=>?_;simp only [bz];(repeat' (first|(with_reducible refine WL.fin ?_;refine hK' _ ?_;clear hK' K')|((with_reducible refine WL.step fun K2 hK2=>?_);simp only [simprocAttr,implies_true,amz,tys,hlm,e1,e2,e3];(repeat' (first|with_reducible (first|(refine hK2 _ ?_;clear hK2 K2)|refine And.intro ?_ ?_|intro hb)|((first|(with_reducible apply zg)|(with_reducible apply zl));case h=>exact CallV.plain (Ent.of Try.func13 (by kernel_rfl) rfl) (hv) (by simp [AV.okB]))))))))|refine T.skip ?_|refine T.exit ?_|refine T.zf rfl ?_|refine T.ze rfl ?_|refine T.cond rfl (fun hc=>?_) (fun hc=>?_)|refine T.ret ?_|simp only [za,z8,reduceIte,Nat.reduceEqDiff]|((repeat ((fail_if_success (refine hK _ ?_));clear hK K));refine hK _ ?_;clear hK K)))
 all_goals (refine zy.ret (.inr rfl) Try.results22 ?_;simp only [zu,zo,zn,simprocAttr,implies_true,amz,tys,])
theorem z5c {l:List Ev} (hl:l.length≤100000) {a b:Nat} (hab:a<b) (hb:b<l.length):zq Try.prog 30 [.p (.seq 9 (l.map evC)),.int a,.int b] (.bool (qi l a b)):=by
 obtain ⟨x,hx⟩:=zT (show a<l.length by omega)
 obtain ⟨y,hy⟩:=zT hb
 have h:=z6K l a b x y hx hy hab (by omega)
 have e:qi l a b=immB l x y a b:=by unfold qi;rw [hx,hy]
 rw [e];exact h
noncomputable def stF (l:List Ev) (j d:Nat):Nat→Nat:=fun a=>if j≤a+d then zO l j a else 0
noncomputable def stG (l:List Ev) (j d k b:Nat):Nat→Int:=fun a=>((if a=k then b else stF l j d a:Nat):Int)
theorem stF_zero (l:List Ev) (n j:Nat) (h:j<n):(List.replicate n [PV.val (.int .i64 0)]).set j [PV.val (.int .i64 1)]=rowF n (fun a=>(stF l j 0 a:Int)):=by
 rw [← z9z,z4M _ _ h]
 refine z1F fun a ha=>?_
 simp only [upI,stF,Nat.add_zero]
 by_cases e:a=j
 ·subst e;rw [if_pos rfl,if_pos (Nat.le_refl _),z16];rfl
 ·rw [if_neg e]
  by_cases e2:j≤a
  ·rw [if_pos e2,z7v (by omega)];rfl
  ·rw [if_neg e2];rfl
theorem stG_zero (l:List Ev) (n j d k:Nat) (h:j=k+1+d):rowF n (stG l j d k 0)=rowF n (fun a=>(stF l j d a:Int)):=by
 refine z1F fun a _=>?_
 unfold stG
 by_cases e:a=k
 ·rw [if_pos e,stF,if_neg (by omega)]
 ·rw [if_neg e]
theorem stG_set (l:List Ev) (n j d k b v:Nat) (h:k<n):(rowF n (stG l j d k b)).set k [PV.val (.int .i64 (v:Int))]=rowF n (stG l j d k v):=by
 rw [z4M _ _ h]
 refine z1F fun a _=>?_
 unfold upI stG
 by_cases e:a=k
 ·rw [if_pos e,if_pos e]
 ·rw [if_neg e,if_neg e,if_neg e]
theorem stG_end (l:List Ev) (n j d k:Nat) (h:j=k+1+d):rowF n (stG l j d k (zO l j k))=rowF n (fun a=>(stF l j (d+1) a:Int)):=by
 refine z1F fun a _=>?_
 unfold stG
 by_cases e:a=k
 ·rw [if_pos e,e,stF,if_pos (by omega)]
 ·rw [if_neg e]
  unfold stF
  by_cases e2:j≤a+d
  ·rw [if_pos e2,if_pos (by omega)]
  ·rw [if_neg e2,if_neg (by omega)]
noncomputable def chR (l:List Ev) (i j:Nat):List Nat:=if 0<zO l j i then chC l i j else []
theorem chain_ok (l:List Ev) (i j:Nat) (hl:l.length≤100000) (hij:i<j) (hj:j<l.length):zq Try.prog 23 [.p (.seq 9 (l.map evC)),.int i,.int j] (.p (.seq 1 (qw (chR l i j)))):=by
 have hlm:(l.map evC).length=l.length:=by simp
 obtain ⟨n,hn⟩ : ∃ n,n=l.length:=⟨_,rfl⟩
 rw [← hn] at hlm
 have hml:n≤maxLen:=by unfold maxLen;omega
 have hm1 : 1≤maxLen:=by unfold maxLen;omega
 have hmb : 8*n≤140737488355328:=by omega
 have hj0:(0:Int)≤(j:Int):=by omega
 have hi0:(0:Int)≤(i:Int):=by omega
 have hjn:j<n:=by omega
 have hin:i<n:=by omega
 have hs0:=stF_zero l n j hjn
 have hg0:(List.replicate n [PV.val (.int .i64 0)])[j]? = some [PV.val (.int .i64 0)]:=by simp [hjn]
 have hvl : ∀ a,zO l j a≤100000:=fun a=>by
  by_cases e:a≤j
  ·have:=z2F (l:=l) (j:=j) (d:=j-a) (k:=a) (Nat.le_refl _) e
   omega
  ·rw [z7v (by omega)];omega
 refine zq.of Try.func23 rfl 109 rfl (by decide) (by simp [AV.okB]) ?_
 repeat' (first|refine T.zh fun K hK=>?_|refine T.block ?_|(refine T.reg (by kernel_rfl) fun K' hK'=>?_;simp only [bz];(repeat' (first|(with_reducible refine WL.fin ?_;refine hK' _ ?_;clear hK' K')|((with_reducible refine WL.step fun K2 hK2=>?_);simp only [simprocAttr,implies_true,amz,tys,hlm,hml,hmb,hj0,Int.toNat_natCast,List.length_replicate,hjn,hg0,hs0];(repeat' with_reducible (first|(refine hK2 _ ?_;clear hK2 K2)|refine And.intro ?_ ?_|intro hb))))))|refine T.skip ?_|refine T.exit ?_|refine T.zf rfl ?_|refine T.ze rfl ?_|refine T.cond rfl (fun hc=>?_) (fun hc=>?_)|refine T.ret ?_|simp only [za,z8,reduceIte,Nat.reduceEqDiff]|((repeat ((fail_if_success (refine hK _ ?_));clear hK K));refine hK _ ?_;clear hK K))
 refine T.qc (fun d:Nat=>⟨[(0,.p (.seq 9 (l.map evC))),(1,.int i),(2,.int j),(7,.own 0),(8,.int ((j:Int)-1-(d:Int)))],[(0,.row 3 1 (rowF n (fun a=>(stF l j d a:Int))))],109,1⟩) (fun d=>d≤j-i) (fun d=>j-d) 0 (Nat.zero_le _) (by refine zk.of' rfl ?_;simp only [wks,reduceIte,Nat.reduceEqDiff,ASt.okB,AV.okB,Nat.reduceLT,implies_true,Int.natCast_zero,Int.sub_zero,z0Q (show 0<j by omega) (show j<1152921504606846976 by omega),show (((j-1:Nat)):Int)=(j:Int)-1 by omega]) ?_
 intro d hd KL hKL
 by_cases hdj:d<j-i
 ·obtain ⟨k,hk⟩ : ∃ k,j=k+1+d:=⟨j-1-d,by omega⟩
  have hkz:(j:Int)-1-(d:Int)=(k:Int):=by omega
  have hki:i≤k:=by omega
  have hkn:k<n:=by omega
  have hk0:(0:Int)≤(k:Int):=by omega
  have hd1:decide ((i:Int)≤(k:Int))=true:=by simp;omega
  have hwk:=zm (show k<1152921504606846976 by omega)
  rw [hkz]
  repeat' (first|refine T.zh fun K hK=>?_|refine T.block ?_|(refine T.reg (by kernel_rfl) fun K' hK'=>?_;simp only [bz];(repeat' (first|(with_reducible refine WL.fin ?_;refine hK' _ ?_;clear hK' K')|((with_reducible refine WL.step fun K2 hK2=>?_);simp only [simprocAttr,implies_true,amz,tys,hd1,hwk];(repeat' with_reducible (first|(refine hK2 _ ?_;clear hK2 K2)|refine And.intro ?_ ?_|intro hb))))))|refine T.skip ?_|refine T.exit ?_|refine T.zf rfl ?_|refine T.ze rfl ?_|refine T.cond rfl (fun hc=>?_) (fun hc=>?_)|refine T.ret ?_|simp only [za,z8,reduceIte,Nat.reduceEqDiff]|((repeat ((fail_if_success (refine hK _ ?_));clear hK K));refine hK _ ?_;clear hK K))
  refine T.qc (fun m:Nat=>⟨[(0,.p (.seq 9 (l.map evC))),(1,.int i),(2,.int j),(7,.own 0),(8,.int k),(9,.int (k+1+m:Nat))],[(0,.row 3 1 (rowF n (stG l j d k (bstD l (zO l j) k m))))],109,1⟩) (fun m=>m≤j-k) (fun m=>j-m) 0 (Nat.zero_le _) (by refine zk.of' rfl ?_;simp only [wks,reduceIte,Nat.reduceEqDiff,ASt.okB,AV.okB,Nat.reduceLT,implies_true,Nat.add_zero,bstD,stG_zero l n j d k hk]) ?_
  intro m hm KL2 hKL2
  by_cases hmj:m<j-k
  ·have hd2:decide (((k+1+m:Nat):Int)≤(j:Int))=true:=by simp;omega
   have hx0:(0:Int)≤((k+1+m:Nat):Int):=by omega
   have hxn:k+1+m<n:=by omega
   have him:=z5c hl (show k<k+1+m by omega) (show k+1+m<l.length by omega)
   have hbs:bstD l (zO l j) k (m+1)=if decide (0<zO l j (k+1+m))&&(qi l k (k+1+m)&&(bstD l (zO l j) k m==0||decide (zO l j (k+1+m)+1<bstD l (zO l j) k m))) then zO l j (k+1+m)+1 else bstD l (zO l j) k m:=rfl
   have hfx:stG l j d k (bstD l (zO l j) k m) (k+1+m)=((zO l j (k+1+m):Nat):Int):=by
    unfold stG stF;rw [if_neg (by omega),if_pos (by omega)]
   have hfk:stG l j d k (bstD l (zO l j) k m) k=((bstD l (zO l j) k m:Nat):Int):=by
    unfold stG;rw [if_pos rfl]
   have hvx:=hvl (k+1+m)
   have hat1:=z0h (stG l j d k (bstD l (zO l j) k m)) hxn
   have hat2:=z0h (stG l j d k (bstD l (zO l j) k m)) hkn
   rw [hfx] at hat1
   rw [hfk] at hat2
   have hset:=stG_set l n j d k (bstD l (zO l j) k m) (zO l j (k+1+m)+1) hkn
   generalize zO l j (k+1+m)=v at hbs hat1 hset hvx
   generalize qi l k (k+1+m)=b at hbs him
   have hwv:=zm (show v<1152921504606846976 by omega)
   have hwn:=zm (show k+1+m<1152921504606846976 by omega)
   rw [show k+1+m+1=k+1+(m+1) by omega] at hwn
   generalize bstD l (zO l j) k m=s at *
   cases c1:decide (0<v) with
   | false =>
    have e1:decide ((0:Int)<(v:Int))=false:=by rw [← c1];simp
    rw [c1,Bool.false_and,if_neg (by simp)] at hbs
    repeat' (first|refine T.zh fun K hK=>?_|refine T.block ?_|refine T.skip ?_|refine T.exit ?_|refine T.zf rfl ?_|refine T.ze rfl ?_|refine T.cond rfl (fun hc=>?_) (fun hc=>?_)|refine T.ret ?_|simp only [za,z8,reduceIte,Nat.reduceEqDiff]|((repeat ((fail_if_success (refine hK _ ?_));clear hK K));refine hK _ ?_;clear hK K))
    (refine T.reg (by kernel_rfl) fun K' hK'=>?_;simp only [bz];(repeat' (first|(with_reducible refine WL.fin ?_;refine hK' _ ?_;clear hK' K')|((with_reducible refine WL.step fun K2 hK2=>?_);simp only [simprocAttr,implies_true,amz,tys,hd2];(repeat' with_reducible (first|(refine hK2 _ ?_;clear hK2 K2)|refine And.intro ?_ ?_|intro hb)))));all_goals ((try simp only [za,z8,reduceIte,Nat.reduceEqDiff]);(try ((repeat ((fail_if_success (refine hK _ ?_));clear hK K));refine hK _ ?_;clear hK K))))
    repeat' (first|refine T.zh fun K hK=>?_|refine T.block ?_|refine T.skip ?_|refine T.exit ?_|refine T.zf rfl ?_|refine T.ze rfl ?_|refine T.cond rfl (fun hc=>?_) (fun hc=>?_)|refine T.ret ?_|simp only [za,z8,reduceIte,Nat.reduceEqDiff]|((repeat ((fail_if_success (refine hK _ ?_));clear hK K));refine hK _ ?_;clear hK K))
    refine T.drw 27 (by kernel_rfl) (by kernel_rfl) fun K' hK'=>?_;simp only [List.map_cons,List.map_nil];(repeat' (first|(with_reducible refine WL.fin ?_;refine hK' _ ?_;clear hK' K')|(with_reducible refine WD.fin ?_)|((with_reducible first|refine WL.step fun K2 hK2=>?_|refine WD.step fun K2 hK2=>?_);simp only [simprocAttr,implies_true,amz,tys,hx0,Int.toNat_natCast,qB,hxn,hat1,e1];(repeat' with_reducible (first|(refine hK2 _ ?_;clear hK2 K2)|refine And.intro ?_ ?_|intro hb)))));all_goals ((try simp only [za,z8,reduceIte,Nat.reduceEqDiff]);(try ((repeat ((fail_if_success (refine hK _ ?_));clear hK K));refine hK _ ?_;clear hK K)))
    repeat' (first|refine T.zh fun K hK=>?_|refine T.block ?_|(refine T.reg (by kernel_rfl) fun K' hK'=>?_;simp only [bz];(repeat' (first|(with_reducible refine WL.fin ?_;refine hK' _ ?_;clear hK' K')|((with_reducible refine WL.step fun K2 hK2=>?_);simp only [simprocAttr,implies_true,amz,tys,hwn];(repeat' with_reducible (first|(refine hK2 _ ?_;clear hK2 K2)|refine And.intro ?_ ?_|intro hb))))))|refine T.skip ?_|refine T.exit ?_|refine T.zf rfl ?_|refine T.ze rfl ?_|refine T.cond rfl (fun hc=>?_) (fun hc=>?_)|refine T.ret ?_|simp only [za,z8,reduceIte,Nat.reduceEqDiff]|((repeat ((fail_if_success (refine hK _ ?_));clear hK K));refine hK _ ?_;clear hK K))
    refine hKL2 _ (m+1) ?_ hmj (by omega)
    rw [hbs]
    refine zk.of' rfl ?_;simp only [wks,reduceIte,Nat.reduceEqDiff,ASt.okB,AV.okB,Nat.reduceLT,implies_true,]
   | true =>
    have e1:decide ((0:Int)<(v:Int))=true:=by rw [← c1];simp
    rw [c1,Bool.true_and] at hbs
    cases c2:b with
    | false =>
     rw [c2] at him
     rw [c2,Bool.false_and,if_neg (by simp)] at hbs
     repeat' (first|refine T.zh fun K hK=>?_|refine T.block ?_|refine T.skip ?_|refine T.exit ?_|refine T.zf rfl ?_|refine T.ze rfl ?_|refine T.cond rfl (fun hc=>?_) (fun hc=>?_)|refine T.ret ?_|simp only [za,z8,reduceIte,Nat.reduceEqDiff]|((repeat ((fail_if_success (refine hK _ ?_));clear hK K));refine hK _ ?_;clear hK K))
     (refine T.reg (by kernel_rfl) fun K' hK'=>?_;simp only [bz];(repeat' (first|(with_reducible refine WL.fin ?_;refine hK' _ ?_;clear hK' K')|((with_reducible refine WL.step fun K2 hK2=>?_);simp only [simprocAttr,implies_true,amz,tys,hd2];(repeat' with_reducible (first|(refine hK2 _ ?_;clear hK2 K2)|refine And.intro ?_ ?_|intro hb)))));all_goals ((try simp only [za,z8,reduceIte,Nat.reduceEqDiff]);(try ((repeat ((fail_if_success (refine hK _ ?_));clear hK K));refine hK _ ?_;clear hK K))))
     repeat' (first|refine T.zh fun K hK=>?_|refine T.block ?_|refine T.skip ?_|refine T.exit ?_|refine T.zf rfl ?_|refine T.ze rfl ?_|refine T.cond rfl (fun hc=>?_) (fun hc=>?_)|refine T.ret ?_|simp only [za,z8,reduceIte,Nat.reduceEqDiff]|((repeat ((fail_if_success (refine hK _ ?_));clear hK K));refine hK _ ?_;clear hK K))
     refine T.drw 27 (by kernel_rfl) (by kernel_rfl) fun K' hK'=>?_;simp only [List.map_cons,List.map_nil];(repeat' (first|(with_reducible refine WL.fin ?_;refine hK' _ ?_;clear hK' K')|(with_reducible refine WD.fin ?_)|((with_reducible first|refine WL.step fun K2 hK2=>?_|refine WD.step fun K2 hK2=>?_);simp only [simprocAttr,implies_true,amz,tys,hx0,Int.toNat_natCast,qB,hxn,hat1,e1];(repeat' (first|with_reducible (first|(refine hK2 _ ?_;clear hK2 K2)|refine And.intro ?_ ?_|intro hb)|((first|(with_reducible apply zg)|(with_reducible apply zl));case h=>exact CallV.plain (Ent.of Try.func30 (by kernel_rfl) rfl) (him) (by simp [AV.okB])))))));all_goals ((try simp only [za,z8,reduceIte,Nat.reduceEqDiff]);(try ((repeat ((fail_if_success (refine hK _ ?_));clear hK K));refine hK _ ?_;clear hK K)))
     repeat' (first|refine T.zh fun K hK=>?_|refine T.block ?_|(refine T.reg (by kernel_rfl) fun K' hK'=>?_;simp only [bz];(repeat' (first|(with_reducible refine WL.fin ?_;refine hK' _ ?_;clear hK' K')|((with_reducible refine WL.step fun K2 hK2=>?_);simp only [simprocAttr,implies_true,amz,tys,hwn];(repeat' with_reducible (first|(refine hK2 _ ?_;clear hK2 K2)|refine And.intro ?_ ?_|intro hb))))))|refine T.skip ?_|refine T.exit ?_|refine T.zf rfl ?_|refine T.ze rfl ?_|refine T.cond rfl (fun hc=>?_) (fun hc=>?_)|refine T.ret ?_|simp only [za,z8,reduceIte,Nat.reduceEqDiff]|((repeat ((fail_if_success (refine hK _ ?_));clear hK K));refine hK _ ?_;clear hK K))
     refine hKL2 _ (m+1) ?_ hmj (by omega)
     rw [hbs]
     refine zk.of' rfl ?_;simp only [wks,reduceIte,Nat.reduceEqDiff,ASt.okB,AV.okB,Nat.reduceLT,implies_true,]
    | true =>
     rw [c2] at him
     rw [c2,Bool.true_and] at hbs
     cases c3:(s==0) with
     | true =>
      have e3:((s:Int)==0)=true:=by rw [← c3,Bool.eq_iff_iff,beq_iff_eq,beq_iff_eq];omega
      rw [c3,Bool.true_or,if_pos rfl] at hbs
      repeat' (first|refine T.zh fun K hK=>?_|refine T.block ?_|refine T.skip ?_|refine T.exit ?_|refine T.zf rfl ?_|refine T.ze rfl ?_|refine T.cond rfl (fun hc=>?_) (fun hc=>?_)|refine T.ret ?_|simp only [za,z8,reduceIte,Nat.reduceEqDiff]|((repeat ((fail_if_success (refine hK _ ?_));clear hK K));refine hK _ ?_;clear hK K))
      (refine T.reg (by kernel_rfl) fun K' hK'=>?_;simp only [bz];(repeat' (first|(with_reducible refine WL.fin ?_;refine hK' _ ?_;clear hK' K')|((with_reducible refine WL.step fun K2 hK2=>?_);simp only [simprocAttr,implies_true,amz,tys,hd2];(repeat' with_reducible (first|(refine hK2 _ ?_;clear hK2 K2)|refine And.intro ?_ ?_|intro hb)))));all_goals ((try simp only [za,z8,reduceIte,Nat.reduceEqDiff]);(try ((repeat ((fail_if_success (refine hK _ ?_));clear hK K));refine hK _ ?_;clear hK K))))
      repeat' (first|refine T.zh fun K hK=>?_|refine T.block ?_|refine T.skip ?_|refine T.exit ?_|refine T.zf rfl ?_|refine T.ze rfl ?_|refine T.cond rfl (fun hc=>?_) (fun hc=>?_)|refine T.ret ?_|simp only [za,z8,reduceIte,Nat.reduceEqDiff]|((repeat ((fail_if_success (refine hK _ ?_));clear hK K));refine hK _ ?_;clear hK K))
      refine T.drw 27 (by kernel_rfl) (by kernel_rfl) fun K' hK'=>?_;simp only [List.map_cons,List.map_nil];(repeat' (first|(with_reducible refine WL.fin ?_;refine hK' _ ?_;clear hK' K')|(with_reducible refine WD.fin ?_)|((with_reducible first|refine WL.step fun K2 hK2=>?_|refine WD.step fun K2 hK2=>?_);simp only [simprocAttr,implies_true,amz,tys,hx0,hk0,Int.toNat_natCast,qB,hxn,hkn,hat1,hat2,e1,e3];(repeat' (first|with_reducible (first|(refine hK2 _ ?_;clear hK2 K2)|refine And.intro ?_ ?_|intro hb)|((first|(with_reducible apply zg)|(with_reducible apply zl));case h=>exact CallV.plain (Ent.of Try.func30 (by kernel_rfl) rfl) (him) (by simp [AV.okB])))))));all_goals ((try simp only [za,z8,reduceIte,Nat.reduceEqDiff]);(try ((repeat ((fail_if_success (refine hK _ ?_));clear hK K));refine hK _ ?_;clear hK K)))
      repeat' (first|refine T.zh fun K hK=>?_|refine T.block ?_|(refine T.reg (by kernel_rfl) fun K' hK'=>?_;simp only [bz];(repeat' (first|(with_reducible refine WL.fin ?_;refine hK' _ ?_;clear hK' K')|((with_reducible refine WL.step fun K2 hK2=>?_);simp only [simprocAttr,implies_true,amz,tys,hwn,hx0,hk0,Int.toNat_natCast,qB,hxn,hkn,hat1,hat2,hwv,hset];(repeat' with_reducible (first|(refine hK2 _ ?_;clear hK2 K2)|refine And.intro ?_ ?_|intro hb))))))|refine T.skip ?_|refine T.exit ?_|refine T.zf rfl ?_|refine T.ze rfl ?_|refine T.cond rfl (fun hc=>?_) (fun hc=>?_)|refine T.ret ?_|simp only [za,z8,reduceIte,Nat.reduceEqDiff]|((repeat ((fail_if_success (refine hK _ ?_));clear hK K));refine hK _ ?_;clear hK K))
      refine hKL2 _ (m+1) ?_ hmj (by omega)
      rw [hbs]
      refine zk.of' rfl ?_;simp only [wks,reduceIte,Nat.reduceEqDiff,ASt.okB,AV.okB,Nat.reduceLT,implies_true,]
     | false =>
      have e3:((s:Int)==0)=false:=by rw [← c3,Bool.eq_iff_iff,beq_iff_eq,beq_iff_eq];omega
      rw [c3,Bool.false_or] at hbs
      cases c4:decide (v+1<s) with
      | true =>
       have e4:decide (((v+1:Nat):Int)<(s:Int))=true:=by rw [← c4,Bool.eq_iff_iff,decide_eq_true_iff,decide_eq_true_iff];omega
       rw [c4,if_pos rfl] at hbs
       repeat' (first|refine T.zh fun K hK=>?_|refine T.block ?_|refine T.skip ?_|refine T.exit ?_|refine T.zf rfl ?_|refine T.ze rfl ?_|refine T.cond rfl (fun hc=>?_) (fun hc=>?_)|refine T.ret ?_|simp only [za,z8,reduceIte,Nat.reduceEqDiff]|((repeat ((fail_if_success (refine hK _ ?_));clear hK K));refine hK _ ?_;clear hK K))
       (refine T.reg (by kernel_rfl) fun K' hK'=>?_;simp only [bz];(repeat' (first|(with_reducible refine WL.fin ?_;refine hK' _ ?_;clear hK' K')|((with_reducible refine WL.step fun K2 hK2=>?_);simp only [simprocAttr,implies_true,amz,tys,hd2];(repeat' with_reducible (first|(refine hK2 _ ?_;clear hK2 K2)|refine And.intro ?_ ?_|intro hb)))));all_goals ((try simp only [za,z8,reduceIte,Nat.reduceEqDiff]);(try ((repeat ((fail_if_success (refine hK _ ?_));clear hK K));refine hK _ ?_;clear hK K))))
       repeat' (first|refine T.zh fun K hK=>?_|refine T.block ?_|refine T.skip ?_|refine T.exit ?_|refine T.zf rfl ?_|refine T.ze rfl ?_|refine T.cond rfl (fun hc=>?_) (fun hc=>?_)|refine T.ret ?_|simp only [za,z8,reduceIte,Nat.reduceEqDiff]|((repeat ((fail_if_success (refine hK _ ?_));clear hK K));refine hK _ ?_;clear hK K))
       refine T.drw 27 (by kernel_rfl) (by kernel_rfl) fun K' hK'=>?_;simp only [List.map_cons,List.map_nil];(repeat' (first|(with_reducible refine WL.fin ?_;refine hK' _ ?_;clear hK' K')|(with_reducible refine WD.fin ?_)|((with_reducible first|refine WL.step fun K2 hK2=>?_|refine WD.step fun K2 hK2=>?_);simp only [simprocAttr,implies_true,amz,tys,hx0,hk0,Int.toNat_natCast,qB,hxn,hkn,hat1,hat2,e1,e3,hwv,e4];(repeat' (first|with_reducible (first|(refine hK2 _ ?_;clear hK2 K2)|refine And.intro ?_ ?_|intro hb)|((first|(with_reducible apply zg)|(with_reducible apply zl));case h=>exact CallV.plain (Ent.of Try.func30 (by kernel_rfl) rfl) (him) (by simp [AV.okB])))))));all_goals ((try simp only [za,z8,reduceIte,Nat.reduceEqDiff]);(try ((repeat ((fail_if_success (refine hK _ ?_));clear hK K));refine hK _ ?_;clear hK K)))
       repeat' (first|refine T.zh fun K hK=>?_|refine T.block ?_|(refine T.reg (by kernel_rfl) fun K' hK'=>?_;simp only [bz];(repeat' (first|(with_reducible refine WL.fin ?_;refine hK' _ ?_;clear hK' K')|((with_reducible refine WL.step fun K2 hK2=>?_);simp only [simprocAttr,implies_true,amz,tys,hwn,hx0,hk0,Int.toNat_natCast,qB,hxn,hkn,hat1,hat2,hwv,hset];(repeat' with_reducible (first|(refine hK2 _ ?_;clear hK2 K2)|refine And.intro ?_ ?_|intro hb))))))|refine T.skip ?_|refine T.exit ?_|refine T.zf rfl ?_|refine T.ze rfl ?_|refine T.cond rfl (fun hc=>?_) (fun hc=>?_)|refine T.ret ?_|simp only [za,z8,reduceIte,Nat.reduceEqDiff]|((repeat ((fail_if_success (refine hK _ ?_));clear hK K));refine hK _ ?_;clear hK K))
       refine hKL2 _ (m+1) ?_ hmj (by omega)
       rw [hbs]
       refine zk.of' rfl ?_;simp only [wks,reduceIte,Nat.reduceEqDiff,ASt.okB,AV.okB,Nat.reduceLT,implies_true,]
      | false =>
       have e4:decide (((v+1:Nat):Int)<(s:Int))=false:=by rw [← c4,Bool.eq_iff_iff,decide_eq_true_iff,decide_eq_true_iff];omega
       rw [c4,if_neg (by simp)] at hbs
       repeat' (first|refine T.zh fun K hK=>?_|refine T.block ?_|refine T.skip ?_|refine T.exit ?_|refine T.zf rfl ?_|refine T.ze rfl ?_|refine T.cond rfl (fun hc=>?_) (fun hc=>?_)|refine T.ret ?_|simp only [za,z8,reduceIte,Nat.reduceEqDiff]|((repeat ((fail_if_success (refine hK _ ?_));clear hK K));refine hK _ ?_;clear hK K))
       (refine T.reg (by kernel_rfl) fun K' hK'=>?_;simp only [bz];(repeat' (first|(with_reducible refine WL.fin ?_;refine hK' _ ?_;clear hK' K')|((with_reducible refine WL.step fun K2 hK2=>?_);simp only [simprocAttr,implies_true,amz,tys,hd2];(repeat' with_reducible (first|(refine hK2 _ ?_;clear hK2 K2)|refine And.intro ?_ ?_|intro hb)))));all_goals ((try simp only [za,z8,reduceIte,Nat.reduceEqDiff]);(try ((repeat ((fail_if_success (refine hK _ ?_));clear hK K));refine hK _ ?_;clear hK K))))
       repeat' (first|refine T.zh fun K hK=>?_|refine T.block ?_|refine T.skip ?_|refine T.exit ?_|refine T.zf rfl ?_|refine T.ze rfl ?_|refine T.cond rfl (fun hc=>?_) (fun hc=>?_)|refine T.ret ?_|simp only [za,z8,reduceIte,Nat.reduceEqDiff]|((repeat ((fail_if_success (refine hK _ ?_));clear hK K));refine hK _ ?_;clear hK K))
       refine T.drw 27 (by kernel_rfl) (by kernel_rfl) fun K' hK'=>?_;simp only [List.map_cons,List.map_nil];(repeat' (first|(with_reducible refine WL.fin ?_;refine hK' _ ?_;clear hK' K')|(with_reducible refine WD.fin ?_)|((with_reducible first|refine WL.step fun K2 hK2=>?_|refine WD.step fun K2 hK2=>?_);simp only [simprocAttr,implies_true,amz,tys,hx0,hk0,Int.toNat_natCast,qB,hxn,hkn,hat1,hat2,e1,e3,hwv,e4];(repeat' (first|with_reducible (first|(refine hK2 _ ?_;clear hK2 K2)|refine And.intro ?_ ?_|intro hb)|((first|(with_reducible apply zg)|(with_reducible apply zl));case h=>exact CallV.plain (Ent.of Try.func30 (by kernel_rfl) rfl) (him) (by simp [AV.okB])))))));all_goals ((try simp only [za,z8,reduceIte,Nat.reduceEqDiff]);(try ((repeat ((fail_if_success (refine hK _ ?_));clear hK K));refine hK _ ?_;clear hK K)))
       repeat' (first|refine T.zh fun K hK=>?_|refine T.block ?_|(refine T.reg (by kernel_rfl) fun K' hK'=>?_;simp only [bz];(repeat' (first|(with_reducible refine WL.fin ?_;refine hK' _ ?_;clear hK' K')|((with_reducible refine WL.step fun K2 hK2=>?_);simp only [simprocAttr,implies_true,amz,tys,hwn];(repeat' with_reducible (first|(refine hK2 _ ?_;clear hK2 K2)|refine And.intro ?_ ?_|intro hb))))))|refine T.skip ?_|refine T.exit ?_|refine T.zf rfl ?_|refine T.ze rfl ?_|refine T.cond rfl (fun hc=>?_) (fun hc=>?_)|refine T.ret ?_|simp only [za,z8,reduceIte,Nat.reduceEqDiff]|((repeat ((fail_if_success (refine hK _ ?_));clear hK K));refine hK _ ?_;clear hK K))
       refine hKL2 _ (m+1) ?_ hmj (by omega)
       rw [hbs]
       refine zk.of' rfl ?_;simp only [wks,reduceIte,Nat.reduceEqDiff,ASt.okB,AV.okB,Nat.reduceLT,implies_true,]
  have hd2:decide (((k+1+m:Nat):Int)≤(j:Int))=false:=by simp;omega
  rw [show m=j-k by omega,z4v (by omega) (fun _ _ _=>rfl),stG_end l n j d k hk]
  rw [show m=j-k by omega] at hd2
  repeat' (first|refine T.zh fun K hK=>?_|refine T.block ?_|(refine T.reg (by kernel_rfl) fun K' hK'=>?_;simp only [bz];(repeat' (first|(with_reducible refine WL.fin ?_;refine hK' _ ?_;clear hK' K')|((with_reducible refine WL.step fun K2 hK2=>?_);simp only [simprocAttr,implies_true,amz,tys,hd2];(repeat' with_reducible (first|(refine hK2 _ ?_;clear hK2 K2)|refine And.intro ?_ ?_|intro hb))))))|refine T.skip ?_|refine T.exit ?_|refine T.zf rfl ?_|refine T.ze rfl ?_|refine T.cond rfl (fun hc=>?_) (fun hc=>?_)|refine T.ret ?_|simp only [za,z8,reduceIte,Nat.reduceEqDiff]|((repeat ((fail_if_success (refine hK _ ?_));clear hK K));refine hK _ ?_;clear hK K))
  refine hKL _ (d+1) ?_ hdj (by omega)
  have hwp:IntKind.i64.wrap ((k:Int)-1)=(j:Int)-1-((d+1:Nat):Int):=by rw [z4c (by omega) (by omega)];omega
  refine zk.of' rfl ?_;simp only [wks,reduceIte,Nat.reduceEqDiff,ASt.okB,AV.okB,Nat.reduceLT,implies_true,hwp]
 have hd1:decide ((i:Int)≤(j:Int)-1-(d:Int))=false:=by simp;omega
 have hFi : ∀ a,i≤a→stF l j d a=zO l j a:=fun a ha=>by unfold stF;rw [if_pos (by omega)]
 have hati:=z0h (fun a=>(stF l j d a:Int)) hin
 rw [hFi i (Nat.le_refl _)] at hati
 by_cases hv : 0<zO l j i
 ·have hc:chR l i j=chC l i j:=by unfold chR;rw [if_pos hv]
  have hd3:((zO l j i:Int)==0)=false:=by rw [beq_eq_false_iff_ne];omega
  have hcl:=z3z hv
  have hvi:=hvl i
  repeat' (first|refine T.zh fun K hK=>?_|refine T.block ?_|refine T.skip ?_|refine T.exit ?_|refine T.zf rfl ?_|refine T.ze rfl ?_|refine T.cond rfl (fun hc=>?_) (fun hc=>?_)|refine T.ret ?_|simp only [za,z8,reduceIte,Nat.reduceEqDiff]|((repeat ((fail_if_success (refine hK _ ?_));clear hK K));refine hK _ ?_;clear hK K))
  (refine T.reg (by kernel_rfl) fun K' hK'=>?_;simp only [bz];(repeat' (first|(with_reducible refine WL.fin ?_;refine hK' _ ?_;clear hK' K')|((with_reducible refine WL.step fun K2 hK2=>?_);simp only [simprocAttr,implies_true,amz,tys,hd1];(repeat' with_reducible (first|(refine hK2 _ ?_;clear hK2 K2)|refine And.intro ?_ ?_|intro hb)))));all_goals ((try simp only [za,z8,reduceIte,Nat.reduceEqDiff]);(try ((repeat ((fail_if_success (refine hK _ ?_));clear hK K));refine hK _ ?_;clear hK K))))
  repeat' (first|refine T.zh fun K hK=>?_|refine T.block ?_|refine T.skip ?_|refine T.exit ?_|refine T.zf rfl ?_|refine T.ze rfl ?_|refine T.cond rfl (fun hc=>?_) (fun hc=>?_)|refine T.ret ?_|simp only [za,z8,reduceIte,Nat.reduceEqDiff]|((repeat ((fail_if_success (refine hK _ ?_));clear hK K));refine hK _ ?_;clear hK K))
  (refine T.reg (by kernel_rfl) fun K' hK'=>?_;simp only [bz];(repeat' (first|(with_reducible refine WL.fin ?_;refine hK' _ ?_;clear hK' K')|((with_reducible refine WL.step fun K2 hK2=>?_);simp only [simprocAttr,implies_true,amz,tys,hi0,Int.toNat_natCast,qB,hin,hati,hd3];(repeat' with_reducible (first|(refine hK2 _ ?_;clear hK2 K2)|refine And.intro ?_ ?_|intro hb)))));all_goals ((try simp only [za,z8,reduceIte,Nat.reduceEqDiff]);(try ((repeat ((fail_if_success (refine hK _ ?_));clear hK K));refine hK _ ?_;clear hK K))))
  repeat' (first|refine T.zh fun K hK=>?_|refine T.block ?_|refine T.skip ?_|refine T.exit ?_|refine T.zf rfl ?_|refine T.ze rfl ?_|refine T.cond rfl (fun hc=>?_) (fun hc=>?_)|refine T.ret ?_|simp only [za,z8,reduceIte,Nat.reduceEqDiff]|((repeat ((fail_if_success (refine hK _ ?_));clear hK K));refine hK _ ?_;clear hK K))
  refine T.regO (d1 := 76) (d2 := 77) (av := .int i) 24 1 #[(0,.tmp 76)] 3 1 8 [[.val (.int .i64 i)]] (by kernel_rfl) rfl rfl rfl rfl (show 76<109 by decide) (show 77<109 by decide) ?_ rfl ?_ ?_ fun K' hK'=>?_
  ·simp only [List.map_cons,List.map_nil,simprocAttr,implies_true,amz,tys]
  ·simp only [List.map_cons,List.map_nil,hm1,simprocAttr,implies_true,amz,tys]
  ·simp only [tys]
  simp only [z18,frOf,List.map_cons,List.map_nil,ASt.add,zH,Nat.reduceAdd]
  (repeat' (first|(with_reducible refine WL.fin ?_;refine hK' _ ?_;clear hK' K')|(with_reducible refine WD.fin ?_)|((with_reducible first|refine WL.step fun K2 hK2=>?_|refine WD.step fun K2 hK2=>?_);simp only [simprocAttr,implies_true,amz,tys];(repeat' with_reducible (first|(refine hK2 _ ?_;clear hK2 K2)|refine And.intro ?_ ?_|intro hb)))))
  all_goals ((try simp only [za,z8,reduceIte,Nat.reduceEqDiff]);(try ((repeat ((fail_if_success (refine hK _ ?_));clear hK K));refine hK _ ?_;clear hK K)))
  repeat' (first|refine T.zh fun K hK=>?_|refine T.block ?_|refine T.skip ?_|refine T.exit ?_|refine T.zf rfl ?_|refine T.ze rfl ?_|refine T.cond rfl (fun hc=>?_) (fun hc=>?_)|refine T.ret ?_|simp only [za,z8,reduceIte,Nat.reduceEqDiff]|((repeat ((fail_if_success (refine hK _ ?_));clear hK K));refine hK _ ?_;clear hK K))
  (refine T.reg (by kernel_rfl) fun K' hK'=>?_;simp only [bz];(repeat' (first|(with_reducible refine WL.fin ?_;refine hK' _ ?_;clear hK' K')|((with_reducible refine WL.step fun K2 hK2=>?_);simp only [simprocAttr,implies_true,amz,tys];(repeat' with_reducible (first|(refine hK2 _ ?_;clear hK2 K2)|refine And.intro ?_ ?_|intro hb)))));all_goals ((try simp only [za,z8,reduceIte,Nat.reduceEqDiff]);(try ((repeat ((fail_if_success (refine hK _ ?_));clear hK K));refine hK _ ?_;clear hK K))))
  repeat' (first|refine T.zh fun K hK=>?_|refine T.block ?_|refine T.skip ?_|refine T.exit ?_|refine T.zf rfl ?_|refine T.ze rfl ?_|refine T.cond rfl (fun hc=>?_) (fun hc=>?_)|refine T.ret ?_|simp only [za,z8,reduceIte,Nat.reduceEqDiff]|((repeat ((fail_if_success (refine hK _ ?_));clear hK K));refine hK _ ?_;clear hK K))
  refine T.qc (fun p:Nat × List Nat=>⟨[(0,.p (.seq 9 (l.map evC))),(1,.int i),(2,.int j),(7,.own 0),(10,.own 1),(11,.int p.1)],[(0,.row 3 1 (rowF n (fun a=>(stF l j d a:Int)))),(1,.row 3 1 (qw p.2))],109,2⟩)
   (fun p => 1≤zO l j p.1∧i≤p.1∧p.2++chT l j (zO l j p.1-1) p.1=chC l i j∧p.1≤j) (fun p=>zO l j p.1) (i,[i]) ⟨hv,Nat.le_refl _,rfl,Nat.le_of_lt hij⟩ (by refine zk.of' rfl ?_;simp only [wks,reduceIte,Nat.reduceEqDiff,ASt.okB,AV.okB,Nat.reduceLT,implies_true,qw,List.map_cons,List.map_nil]) ?_
  rintro ⟨k,out⟩ ⟨hk1,hki,hch,hkJ⟩ KL hKL
  simp only at hk1 hki hch hkJ hKL ⊢
  have hol:out.length≤200000:=by
   have:=congrArg List.length hch
   rw [List.length_append,hcl] at this
   omega
  by_cases hkj:k=j
  ·have hd2:((k:Int) != (j:Int))=false:=by rw [hkj];simp
   have hout:out=chC l i j:=by
    rw [← hch,hkj,z16];simp [chT]
   repeat' (first|refine T.zh fun K hK=>?_|refine T.block ?_|refine T.skip ?_|refine T.exit ?_|refine T.zf rfl ?_|refine T.ze rfl ?_|refine T.cond rfl (fun hc=>?_) (fun hc=>?_)|refine T.ret ?_|simp only [za,z8,reduceIte,Nat.reduceEqDiff]|((repeat ((fail_if_success (refine hK _ ?_));clear hK K));refine hK _ ?_;clear hK K))
   (refine T.reg (by kernel_rfl) fun K' hK'=>?_;simp only [bz];(repeat' (first|(with_reducible refine WL.fin ?_;refine hK' _ ?_;clear hK' K')|((with_reducible refine WL.step fun K2 hK2=>?_);simp only [simprocAttr,implies_true,amz,tys,hd2];(repeat' with_reducible (first|(refine hK2 _ ?_;clear hK2 K2)|refine And.intro ?_ ?_|intro hb)))));all_goals ((try simp only [za,z8,reduceIte,Nat.reduceEqDiff]);(try ((repeat ((fail_if_success (refine hK _ ?_));clear hK K));refine hK _ ?_;clear hK K))))
   repeat' (first|refine T.zh fun K hK=>?_|refine T.block ?_|refine T.skip ?_|refine T.exit ?_|refine T.zf rfl ?_|refine T.ze rfl ?_|refine T.cond rfl (fun hc=>?_) (fun hc=>?_)|refine T.ret ?_|simp only [za,z8,reduceIte,Nat.reduceEqDiff]|((repeat ((fail_if_success (refine hK _ ?_));clear hK K));refine hK _ ?_;clear hK K))
   refine T.weak (zk.frz _ 1) ?_;simp only [ASt.frz,List.filter_cons,List.filter_nil,bne_self_eq_false,Nat.reduceBneDiff,Bool.false_eq_true,simprocAttr,implies_true,amz,]
   repeat' (first|refine T.zh fun K hK=>?_|refine T.block ?_|(refine T.reg (by kernel_rfl) fun K' hK'=>?_;simp only [bz];(repeat' (first|(with_reducible refine WL.fin ?_;refine hK' _ ?_;clear hK' K')|((with_reducible refine WL.step fun K2 hK2=>?_);simp only [simprocAttr,implies_true,amz,tys];(repeat' with_reducible (first|(refine hK2 _ ?_;clear hK2 K2)|refine And.intro ?_ ?_|intro hb))))))|refine T.skip ?_|refine T.exit ?_|refine T.zf rfl ?_|refine T.ze rfl ?_|refine T.cond rfl (fun hc=>?_) (fun hc=>?_)|refine T.ret ?_|simp only [za,z8,reduceIte,Nat.reduceEqDiff]|((repeat ((fail_if_success (refine hK _ ?_));clear hK K));refine hK _ ?_;clear hK K))
   refine zy.ret (.inr rfl) Try.results23 ?_;simp only [zu,zo,zn,simprocAttr,implies_true,amz,tys,hout,hc]
  ·have hd2:((k:Int) != (j:Int))=true:=by simp;omega
   have h2 : 2≤zO l j k:=by
    by_cases e:zO l j k=1
    ·exact absurd (z5B e) hkj
    ·omega
   have hn1:=z2Z h2
   have hn2:=z6I h2
   have hn3:=z5U h2
   have hn4:=z7w h2
   have hsp:=(z3H h2).2
   have hsn:=z9A h2 hch
   generalize nxtC l j k=y at hn1 hn2 hn3 hn4 hsp hsn
   have hrs:=z0S out y
   have hb3:(qw out).length+1≤maxLen:=by rw [qJ];unfold maxLen;omega
   have hb4:((qw out).length+1)*8≤140737488355328:=by rw [qJ];omega
   have hwk:=zm (show k<1152921504606846976 by omega)
   have hk0:(0:Int)≤(k:Int):=by omega
   have hkn:k<n:=by omega
   have hatk:=z0h (fun a=>(stF l j d a:Int)) hkn
   rw [hFi k hki] at hatk
   have hwv:=z0Q (show 0<zO l j k by omega) (show zO l j k<1152921504606846976 by have:=hvl k;omega)
   repeat' (first|refine T.zh fun K hK=>?_|refine T.block ?_|(refine T.reg (by kernel_rfl) fun K' hK'=>?_;simp only [bz];(repeat' (first|(with_reducible refine WL.fin ?_;refine hK' _ ?_;clear hK' K')|((with_reducible refine WL.step fun K2 hK2=>?_);simp only [simprocAttr,implies_true,amz,tys,hd2,hwk];(repeat' with_reducible (first|(refine hK2 _ ?_;clear hK2 K2)|refine And.intro ?_ ?_|intro hb))))))|refine T.skip ?_|refine T.exit ?_|refine T.zf rfl ?_|refine T.ze rfl ?_|refine T.cond rfl (fun hc=>?_) (fun hc=>?_)|refine T.ret ?_|simp only [za,z8,reduceIte,Nat.reduceEqDiff]|((repeat ((fail_if_success (refine hK _ ?_));clear hK K));refine hK _ ?_;clear hK K))
   refine T.qc (fun q:Nat=>⟨[(0,.p (.seq 9 (l.map evC))),(1,.int i),(2,.int j),(7,.own 0),(10,.own 1),(11,.int k),(12,.int q)],[(0,.row 3 1 (rowF n (fun a=>(stF l j d a:Int)))),(1,.row 3 1 (qw out))],109,2⟩) (fun q=>k<q∧q≤y) (fun q=>y-q) (k+1) ⟨Nat.lt_succ_self k,hn3⟩ (by refine zk.of' rfl ?_;simp only [wks,reduceIte,Nat.reduceEqDiff,ASt.okB,AV.okB,Nat.reduceLT,implies_true,]) ?_
   rintro q ⟨hkq,hqy⟩ KL2 hKL2
   have him:=z5c hl hkq (show q<l.length by omega)
   have hq0:(0:Int)≤(q:Int):=by omega
   have hqn:q<n:=by omega
   have hatq:=z0h (fun a=>(stF l j d a:Int)) hqn
   rw [hFi q (by omega)] at hatq
   have hwq:=zm (show q<1152921504606846976 by omega)
   by_cases hqe:q=y
   ·subst hqe
    have e5:(((zO l j q:Nat):Int) != ((zO l j k-1:Nat):Int))=false:=by rw [show zO l j k-1=zO l j q by omega];simp
    rw [hn4] at him
    repeat' (first|refine T.zh fun K hK=>?_|refine T.block ?_|refine T.skip ?_|refine T.exit ?_|refine T.zf rfl ?_|refine T.ze rfl ?_|refine T.cond rfl (fun hc=>?_) (fun hc=>?_)|refine T.ret ?_|simp only [za,z8,reduceIte,Nat.reduceEqDiff]|((repeat ((fail_if_success (refine hK _ ?_));clear hK K));refine hK _ ?_;clear hK K))
    refine T.drw 15 (by kernel_rfl) (by kernel_rfl) fun K' hK'=>?_;simp only [List.map_cons,List.map_nil];(repeat' (first|(with_reducible refine WL.fin ?_;refine hK' _ ?_;clear hK' K')|(with_reducible refine WD.fin ?_)|((with_reducible first|refine WL.step fun K2 hK2=>?_|refine WD.step fun K2 hK2=>?_);simp only [simprocAttr,implies_true,amz,tys,hq0,hk0,Int.toNat_natCast,qB,hqn,hkn,hatq,hatk,hwv,e5,Bool.not_true];(repeat' (first|with_reducible (first|(refine hK2 _ ?_;clear hK2 K2)|refine And.intro ?_ ?_|intro hb)|((first|(with_reducible apply zg)|(with_reducible apply zl));case h=>exact CallV.plain (Ent.of Try.func30 (by kernel_rfl) rfl) (him) (by simp [AV.okB])))))));all_goals ((try simp only [za,z8,reduceIte,Nat.reduceEqDiff]);(try ((repeat ((fail_if_success (refine hK _ ?_));clear hK K));refine hK _ ?_;clear hK K)))
    repeat' (first|refine T.zh fun K hK=>?_|refine T.block ?_|(refine T.reg (by kernel_rfl) fun K' hK'=>?_;simp only [bz];(repeat' (first|(with_reducible refine WL.fin ?_;refine hK' _ ?_;clear hK' K')|((with_reducible refine WL.step fun K2 hK2=>?_);simp only [simprocAttr,implies_true,amz,tys,hm1,hb3,hb4,hrs,List.length_cons,List.length_nil,Nat.zero_add];(repeat' with_reducible (first|(refine hK2 _ ?_;clear hK2 K2)|refine And.intro ?_ ?_|intro hb))))))|refine T.skip ?_|refine T.exit ?_|refine T.zf rfl ?_|refine T.ze rfl ?_|refine T.cond rfl (fun hc=>?_) (fun hc=>?_)|refine T.ret ?_|simp only [za,z8,reduceIte,Nat.reduceEqDiff]|((repeat ((fail_if_success (refine hK _ ?_));clear hK K));refine hK _ ?_;clear hK K))
    refine hKL _ (q,out ++ [q]) ?_ ⟨by simp only;omega,by simp only;omega,hsn,hn2⟩ (by simp only;omega)
    refine zk.of' rfl ?_;simp only [wks,reduceIte,Nat.reduceEqDiff,ASt.okB,AV.okB,Nat.reduceLT,implies_true,]
   ·have hf:=hsp q (by omega)
    unfold folB at hf
    rw [decide_eq_true hkq,Bool.true_and] at hf
    cases c2:qi l k q with
    | false =>
     rw [c2] at him
     repeat' (first|refine T.zh fun K hK=>?_|refine T.block ?_|refine T.skip ?_|refine T.exit ?_|refine T.zf rfl ?_|refine T.ze rfl ?_|refine T.cond rfl (fun hc=>?_) (fun hc=>?_)|refine T.ret ?_|simp only [za,z8,reduceIte,Nat.reduceEqDiff]|((repeat ((fail_if_success (refine hK _ ?_));clear hK K));refine hK _ ?_;clear hK K))
     refine T.drw 15 (by kernel_rfl) (by kernel_rfl) fun K' hK'=>?_;simp only [List.map_cons,List.map_nil];(repeat' (first|(with_reducible refine WL.fin ?_;refine hK' _ ?_;clear hK' K')|(with_reducible refine WD.fin ?_)|((with_reducible first|refine WL.step fun K2 hK2=>?_|refine WD.step fun K2 hK2=>?_);simp only [simprocAttr,implies_true,amz,tys,hq0,hk0,Int.toNat_natCast,qB,hqn,hkn,hatq,hatk,hwv,Bool.not_false];(repeat' (first|with_reducible (first|(refine hK2 _ ?_;clear hK2 K2)|refine And.intro ?_ ?_|intro hb)|((first|(with_reducible apply zg)|(with_reducible apply zl));case h=>exact CallV.plain (Ent.of Try.func30 (by kernel_rfl) rfl) (him) (by simp [AV.okB])))))));all_goals ((try simp only [za,z8,reduceIte,Nat.reduceEqDiff]);(try ((repeat ((fail_if_success (refine hK _ ?_));clear hK K));refine hK _ ?_;clear hK K)))
     repeat' (first|refine T.zh fun K hK=>?_|refine T.block ?_|(refine T.reg (by kernel_rfl) fun K' hK'=>?_;simp only [bz];(repeat' (first|(with_reducible refine WL.fin ?_;refine hK' _ ?_;clear hK' K')|((with_reducible refine WL.step fun K2 hK2=>?_);simp only [simprocAttr,implies_true,amz,tys,hwq];(repeat' with_reducible (first|(refine hK2 _ ?_;clear hK2 K2)|refine And.intro ?_ ?_|intro hb))))))|refine T.skip ?_|refine T.exit ?_|refine T.zf rfl ?_|refine T.ze rfl ?_|refine T.cond rfl (fun hc=>?_) (fun hc=>?_)|refine T.ret ?_|simp only [za,z8,reduceIte,Nat.reduceEqDiff]|((repeat ((fail_if_success (refine hK _ ?_));clear hK K));refine hK _ ?_;clear hK K))
     refine hKL2 _ (q+1) ?_ ⟨by omega,by omega⟩ (by omega)
     refine zk.of' rfl ?_;simp only [wks,reduceIte,Nat.reduceEqDiff,ASt.okB,AV.okB,Nat.reduceLT,implies_true,]
    | true =>
     rw [c2,Bool.true_and] at hf
     have hf:=of_decide_eq_false hf
     have e5:(((zO l j q:Nat):Int) != ((zO l j k-1:Nat):Int))=true:=by simp;omega
     rw [c2] at him
     repeat' (first|refine T.zh fun K hK=>?_|refine T.block ?_|refine T.skip ?_|refine T.exit ?_|refine T.zf rfl ?_|refine T.ze rfl ?_|refine T.cond rfl (fun hc=>?_) (fun hc=>?_)|refine T.ret ?_|simp only [za,z8,reduceIte,Nat.reduceEqDiff]|((repeat ((fail_if_success (refine hK _ ?_));clear hK K));refine hK _ ?_;clear hK K))
     refine T.drw 15 (by kernel_rfl) (by kernel_rfl) fun K' hK'=>?_;simp only [List.map_cons,List.map_nil];(repeat' (first|(with_reducible refine WL.fin ?_;refine hK' _ ?_;clear hK' K')|(with_reducible refine WD.fin ?_)|((with_reducible first|refine WL.step fun K2 hK2=>?_|refine WD.step fun K2 hK2=>?_);simp only [simprocAttr,implies_true,amz,tys,hq0,hk0,Int.toNat_natCast,qB,hqn,hkn,hatq,hatk,hwv,e5,Bool.not_true];(repeat' (first|with_reducible (first|(refine hK2 _ ?_;clear hK2 K2)|refine And.intro ?_ ?_|intro hb)|((first|(with_reducible apply zg)|(with_reducible apply zl));case h=>exact CallV.plain (Ent.of Try.func30 (by kernel_rfl) rfl) (him) (by simp [AV.okB])))))));all_goals ((try simp only [za,z8,reduceIte,Nat.reduceEqDiff]);(try ((repeat ((fail_if_success (refine hK _ ?_));clear hK K));refine hK _ ?_;clear hK K)))
     repeat' (first|refine T.zh fun K hK=>?_|refine T.block ?_|(refine T.reg (by kernel_rfl) fun K' hK'=>?_;simp only [bz];(repeat' (first|(with_reducible refine WL.fin ?_;refine hK' _ ?_;clear hK' K')|((with_reducible refine WL.step fun K2 hK2=>?_);simp only [simprocAttr,implies_true,amz,tys,hwq];(repeat' with_reducible (first|(refine hK2 _ ?_;clear hK2 K2)|refine And.intro ?_ ?_|intro hb))))))|refine T.skip ?_|refine T.exit ?_|refine T.zf rfl ?_|refine T.ze rfl ?_|refine T.cond rfl (fun hc=>?_) (fun hc=>?_)|refine T.ret ?_|simp only [za,z8,reduceIte,Nat.reduceEqDiff]|((repeat ((fail_if_success (refine hK _ ?_));clear hK K));refine hK _ ?_;clear hK K))
     refine hKL2 _ (q+1) ?_ ⟨by omega,by omega⟩ (by omega)
     refine zk.of' rfl ?_;simp only [wks,reduceIte,Nat.reduceEqDiff,ASt.okB,AV.okB,Nat.reduceLT,implies_true,]
 ·have hc:chR l i j = []:=by unfold chR;rw [if_neg hv]
  have hd3:((zO l j i:Int)==0)=true:=by rw [show zO l j i=0 by omega];rfl
  repeat' (first|refine T.zh fun K hK=>?_|refine T.block ?_|(refine T.reg (by kernel_rfl) fun K' hK'=>?_;simp only [bz];(repeat' (first|(with_reducible refine WL.fin ?_;refine hK' _ ?_;clear hK' K')|((with_reducible refine WL.step fun K2 hK2=>?_);simp only [simprocAttr,implies_true,amz,tys,hd1,hi0,Int.toNat_natCast,qB,hin,hati,hd3];(repeat' with_reducible (first|(refine hK2 _ ?_;clear hK2 K2)|refine And.intro ?_ ?_|intro hb))))))|refine T.skip ?_|refine T.exit ?_|refine T.zf rfl ?_|refine T.ze rfl ?_|refine T.cond rfl (fun hc=>?_) (fun hc=>?_)|refine T.ret ?_|simp only [za,z8,reduceIte,Nat.reduceEqDiff]|((repeat ((fail_if_success (refine hK _ ?_));clear hK K));refine hK _ ?_;clear hK K))
  refine zy.retW (.inr rfl) Try.results23 (s':=⟨[(6,.p (.seq 1 []))],[],109,1⟩) (by refine zk.of' rfl ?_;simp only [wks,reduceIte,Nat.reduceEqDiff,ASt.okB,AV.okB,Nat.reduceLT,implies_true,AVle.nil]) ?_
  simp only [zu,zo,zn,simprocAttr,implies_true,amz,tys,qw,List.map_nil,hc]
theorem z9k (l:List Ev) (i j:Int) (hl:l.length≤100000):zq Try.prog 11 [.p (.seq 9 (l.map evC)),.int i,.int j] (.tup [rsnN (expO l i j) (expE l i j),.int (expX l i j)]):=by
 have hn:=z4z l i j hl
 refine zq.of Try.func11 rfl 28 rfl (by decide) (by simp [AV.okB,rsnN]) ?_
 cases hp:plcB l i j with
 | false =>
  have e1:expO l i j=false:=by simp [expO,hp]
  have e2:expE l i j = []:=by simp [expE,hp]
  have e3:expX l i j=1:=by simp [expX,hp]
  rw [hp] at hn
  rw [e1,e2,e3]
  repeat' (first|refine T.zh fun K hK=>?_|refine T.block ?_|(refine T.reg (by kernel_rfl) fun K' hK'=>?_;simp only [bz];(repeat' (first|(with_reducible refine WL.fin ?_;refine hK' _ ?_;clear hK' K')|((with_reducible refine WL.step fun K2 hK2=>?_);simp only [simprocAttr,implies_true,amz,tys,Bool.not_false];(repeat' (first|with_reducible (first|(refine hK2 _ ?_;clear hK2 K2)|refine And.intro ?_ ?_|intro hb)|((first|(with_reducible apply zg)|(with_reducible apply zl));case h=>exact CallV.plain (Ent.of Try.func22 (by kernel_rfl) rfl) (hn) (by simp [AV.okB]))))))))|refine T.skip ?_|refine T.exit ?_|refine T.zf rfl ?_|refine T.ze rfl ?_|refine T.cond rfl (fun hc=>?_) (fun hc=>?_)|refine T.ret ?_|simp only [za,z8,reduceIte,Nat.reduceEqDiff]|((repeat ((fail_if_success (refine hK _ ?_));clear hK K));refine hK _ ?_;clear hK K))
  refine zy.retW (.inr rfl) Try.results11 (s':=⟨[(6,.ptr 0 0),(7,.int 1)],[(0,.boxP none 26 [.bool false,.p (.seq 1 [])])],28,1⟩) (zk.trans (zk.boxle _ 0 none 26 _ [.bool false,.p (.seq 1 [])] rfl rfl fun j x hx=>?_) (by refine zk.of' rfl ?_;simp only [wks,reduceIte,Nat.reduceEqDiff,ASt.okB,AV.okB,Nat.reduceLT,implies_true,zG,List.map_cons,List.map_nil])) ?_
  ·rcases j with _|_|j <;> cases hx <;> first|exact ⟨_,rfl,AVle.refl _⟩|exact ⟨_,rfl,AVle.nil _⟩
  ·simp only [zu,zo,zn,simprocAttr,implies_true,amz,tys,rsnN,qw,List.map_nil]
 | true =>
  have hpp:=z01.1 hp
  obtain ⟨I,rfl⟩ : ∃ I:Nat,i=I:=⟨i.toNat,by have:=hpp.2.1;omega⟩
  obtain ⟨J,rfl⟩ : ∃ J:Nat,j=J:=⟨j.toNat,by have:=hpp.2.1;have:=hpp.2.2.1;omega⟩
  have hIJ:I<J:=by have:=hpp.2.2.1;omega
  have hJl:J<l.length:=by have:=hpp.2.2.2;omega
  have e3:expX l I J=0:=by simp [expX,hp]
  rw [hp] at hn
  have hc:=chain_ok l I J hl hIJ hJl
  by_cases hv : 0<zO l J I
  ·have e1:expO l I J=true:=by simp [expO,hp,hv]
   have e2:expE l I J=chC l I J:=by simp [expE,hp,hv]
   have hcl:=z3z hv
   have hr:chR l I J=chC l I J:=by unfold chR;rw [if_pos hv]
   rw [hr] at hc
   have hrl:=qJ (chC l I J)
   have hd:decide ((0:Int)<((chC l I J).length:Int))=true:=by simp;omega
   rw [e1,e2,e3]
   repeat' (first|refine T.zh fun K hK=>?_|refine T.block ?_|(refine T.reg (by kernel_rfl) fun K' hK'=>?_;simp only [bz];(repeat' (first|(with_reducible refine WL.fin ?_;refine hK' _ ?_;clear hK' K')|((with_reducible refine WL.step fun K2 hK2=>?_);simp only [simprocAttr,implies_true,amz,tys,Bool.not_true,hrl,hd];(repeat' (first|with_reducible (first|(refine hK2 _ ?_;clear hK2 K2)|refine And.intro ?_ ?_|intro hb)|((first|(with_reducible apply zg)|(with_reducible apply zl));case h=>exact CallV.plain (Ent.of Try.func22 (by kernel_rfl) rfl) (hn) (by simp [AV.okB]))|((first|(with_reducible apply zg)|(with_reducible apply zl));case h=>exact CallV.plain (Ent.of Try.func23 (by kernel_rfl) rfl) (hc) (by simp [AV.okB]))))))))|refine T.skip ?_|refine T.exit ?_|refine T.zf rfl ?_|refine T.ze rfl ?_|refine T.cond rfl (fun hc=>?_) (fun hc=>?_)|refine T.ret ?_|simp only [za,z8,reduceIte,Nat.reduceEqDiff]|((repeat ((fail_if_success (refine hK _ ?_));clear hK K));refine hK _ ?_;clear hK K))
   refine zy.ret (.inr rfl) Try.results11 ?_;simp only [zu,zo,zn,simprocAttr,implies_true,amz,tys,rsnN]
  ·have e1:expO l I J=false:=by simp [expO,hp,hv]
   have e2:expE l I J=z1z l J:=by simp [expE,hp,hv]
   have hr:chR l I J = []:=by unfold chR;rw [if_neg hv]
   have hco:=coneR_ok l hl J
   rw [hr] at hc
   have hrl:=qJ []
   have hd:decide ((0:Int)<((0:Nat):Int))=false:=by simp
   rw [e1,e2,e3]
   repeat' (first|refine T.zh fun K hK=>?_|refine T.block ?_|(refine T.reg (by kernel_rfl) fun K' hK'=>?_;simp only [bz];(repeat' (first|(with_reducible refine WL.fin ?_;refine hK' _ ?_;clear hK' K')|((with_reducible refine WL.step fun K2 hK2=>?_);simp only [simprocAttr,implies_true,amz,tys,Bool.not_true,hrl,List.length_nil,hd];(repeat' (first|with_reducible (first|(refine hK2 _ ?_;clear hK2 K2)|refine And.intro ?_ ?_|intro hb)|((first|(with_reducible apply zg)|(with_reducible apply zl));case h=>exact CallV.plain (Ent.of Try.func22 (by kernel_rfl) rfl) (hn) (by simp [AV.okB]))|((first|(with_reducible apply zg)|(with_reducible apply zl));case h=>exact CallV.plain (Ent.of Try.func23 (by kernel_rfl) rfl) (hc) (by simp [AV.okB]))|((first|(with_reducible apply zg)|(with_reducible apply zl));case h=>exact CallV.plain (Ent.of Try.func24 (by kernel_rfl) rfl) (hco) (by simp [AV.okB]))))))))|refine T.skip ?_|refine T.exit ?_|refine T.zf rfl ?_|refine T.ze rfl ?_|refine T.cond rfl (fun hc=>?_) (fun hc=>?_)|refine T.ret ?_|simp only [za,z8,reduceIte,Nat.reduceEqDiff]|((repeat ((fail_if_success (refine hK _ ?_));clear hK K));refine hK _ ?_;clear hK K))
   refine zy.ret (.inr rfl) Try.results11 ?_;simp only [zu,zo,zn,simprocAttr,implies_true,amz,tys,rsnN]
theorem z2B {l:List Ev} (hl:l.length≤99999) (i j:Int):(expE l i j).length≤100000:=by
 unfold expE
 by_cases hp:plcB l i j=true
 ·rw [if_pos hp]
  have hpp:=z01.1 hp
  have h1:=hpp.2.1
  have h2:=hpp.2.2.1
  have h3:=hpp.2.2.2
  by_cases hv : 0<zO l j.toNat i.toNat
  ·rw [if_pos hv,z3z hv]
   have:=z2F (l:=l) (j:=j.toNat) (d:=j.toNat-i.toNat) (k:=i.toNat) (Nat.le_refl _) (by omega)
   omega
  ·rw [if_neg hv]
   unfold z1z
   split
   ·have h1:=z3d (hbB l j.toNat) j.toNat
    simp only [List.length_append,List.length_singleton]
    omega
   ·simp
 ·rw [if_neg hp];simp
theorem expE_len {l:List Ev} (hl:l.length≤99999) (i j:Int):(expE l i j).length≤1000000000000:=Nat.le_trans (z2B hl i j) (by omega)
theorem z7Z (l:List Ev) (i j:Int):zq Try.prog 3 [.p (.seq 9 (l.map evC)),.int i,.int j] (.bool true):=by
 have hw:=z4P
 have hlm:(l.map evC).length=l.length:=by simp
 by_cases hn:l.length≤40
 ·have hg:decide ((40:Int)<(l.length:Int))=false:=by simp;omega
  have h1:=z1C l i j (by omega)
  have h2:=z9k l i j (by omega)
  have h3:=z9g (expO l i j) (expE l i j) (expE_len (by omega) i j)
  simp only [rsnN] at h1 h2 h3
  generalize expO l i j=o at h1 h2 h3
  generalize qw (expE l i j)=r at h1 h2 h3
  generalize expX l i j=x at h1 h2
  refine zq.of Try.func3 rfl 38 rfl (by decide) (by simp [AV.okB]) ?_
  repeat' (first|refine T.zh fun K hK=>?_|refine T.block ?_|(refine T.reg (by kernel_rfl) fun K' hK'=>?_;simp only [bz];(repeat' (first|(with_reducible refine WL.fin ?_;refine hK' _ ?_;clear hK' K')|((with_reducible refine WL.step fun K2 hK2=>?_);simp only [simprocAttr,implies_true,amz,tys,hlm,hg,beq_self_eq_true,Bool.not_true];(repeat' (first|with_reducible (first|(refine hK2 _ ?_;clear hK2 K2)|refine And.intro ?_ ?_|intro hb)|((first|(with_reducible apply zg)|(with_reducible apply zl));case h=>exact CallV.plain (Ent.of Try.func9 (by kernel_rfl) rfl) (hw) (by simp [AV.okB]))|((first|(with_reducible apply zg)|(with_reducible apply zl));case h=>exact CallV.plain (Ent.of Try.func10 (by kernel_rfl) rfl) (h1) (by simp [AV.okB]))|((first|(with_reducible apply zg)|(with_reducible apply zl));case h=>exact CallV.plain (Ent.of Try.func11 (by kernel_rfl) rfl) (h2) (by simp [AV.okB]))|((first|(with_reducible apply zg)|(with_reducible apply zl));case h=>exact CallV.plain (Ent.of Try.func12 (by kernel_rfl) rfl) (h3) (by simp [AV.okB]))))))))|refine T.skip ?_|refine T.exit ?_|refine T.zf rfl ?_|refine T.ze rfl ?_|refine T.cond rfl (fun hc=>?_) (fun hc=>?_)|refine T.ret ?_|simp only [za,z8,reduceIte,Nat.reduceEqDiff]|((repeat ((fail_if_success (refine hK _ ?_));clear hK K));refine hK _ ?_;clear hK K))
  all_goals (refine zy.ret (.inr rfl) Try.results3 ?_;simp only [zu,zo,zn,simprocAttr,implies_true,amz,tys,])
 ·have hg:decide ((40:Int)<(l.length:Int))=true:=by simp;omega
  refine zq.of Try.func3 rfl 38 rfl (by decide) (by simp [AV.okB]) ?_
  repeat' (first|refine T.zh fun K hK=>?_|refine T.block ?_|(refine T.reg (by kernel_rfl) fun K' hK'=>?_;simp only [bz];(repeat' (first|(with_reducible refine WL.fin ?_;refine hK' _ ?_;clear hK' K')|((with_reducible refine WL.step fun K2 hK2=>?_);simp only [simprocAttr,implies_true,amz,tys,hlm,hg,Bool.not_true];(repeat' (first|with_reducible (first|(refine hK2 _ ?_;clear hK2 K2)|refine And.intro ?_ ?_|intro hb)|((first|(with_reducible apply zg)|(with_reducible apply zl));case h=>exact CallV.plain (Ent.of Try.func9 (by kernel_rfl) rfl) (hw) (by simp [AV.okB]))))))))|refine T.skip ?_|refine T.exit ?_|refine T.zf rfl ?_|refine T.ze rfl ?_|refine T.cond rfl (fun hc=>?_) (fun hc=>?_)|refine T.ret ?_|simp only [za,z8,reduceIte,Nat.reduceEqDiff]|((repeat ((fail_if_success (refine hK _ ?_));clear hK K));refine hK _ ?_;clear hK K))
  all_goals (refine zy.ret (.inr rfl) Try.results3 ?_;simp only [zu,zo,zn,simprocAttr,implies_true,amz,tys,])
end Go.Proofs.Ytdlgoofjechocaa
namespace Go.Proofs.Ytdlgoofjechocaa
open Go.RowKit Go.Sort Go.ChangeShapes Go.WideShapes Go.ChangeAt
variable {H:Type} {enc:TypeId × Value→H} {W:World} {base:Nat} {spare:Nat→Bool} {held:Bool}
theorem z1a {r:Reach} {v:Value} (hval:Value.okWide Try.prog W r base 3 v) : ∃ x:Int,IntKind.i64.has x∧v = .int .i64 x:=by
 unfold Value.okWide at hval
 rw [show Try.prog.underlying 3=some (.int .i64) by kernel_rfl] at hval
 cases v <;> simp [Cell.okWide,Cell.ok,show Try.prog.underlying 3=some (.int .i64) by kernel_rfl] at hval
 rename_i k n
 obtain ⟨rfl,h⟩:=hval
 exact ⟨n,h,rfl⟩
end Go.Proofs.Ytdlgoofjechocaa
