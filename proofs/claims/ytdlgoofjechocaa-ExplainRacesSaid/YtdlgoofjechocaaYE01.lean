/- Texts Ev, Ay, Az, Pq, Pr, Py, Pz, Qa, Us, Ut. -/
import Derived.Test.YtdlgoofjechocaaZ13
set_option maxHeartbeats 32000000
set_option maxRecDepth 100000
set_option linter.unusedSimpArgs false
set_option linter.unusedVariables false
namespace Go.Proofs.Ytdlgoofjechocaa
open Go.RowKit Go.Sort
def z5f (k:Int):Bool:=k==1||k==2
theorem zaz (k:Int):zq Try.prog 36 [.int k] (.bool (z5f k)):=by
 refine zq.of Try.func36 rfl 9 rfl (by decide) (by simp [AV.okB]) ?_
 repeat' (first|refine T.zh fun K hK=>?_|refine T.block ?_|(refine T.reg (by kernel_rfl) fun K' hK'=>?_;simp only [bz];(repeat' (first|(with_reducible refine WL.fin ?_;refine hK' _ ?_;clear hK' K')|((with_reducible refine WL.step fun K2 hK2=>?_);simp only [simprocAttr,implies_true,amz,tys];(repeat' with_reducible (first|(refine hK2 _ ?_;clear hK2 K2)|refine And.intro ?_ ?_|intro hb))))))|refine T.skip ?_|refine T.exit ?_|refine T.zf rfl ?_|refine T.ze rfl ?_|refine T.cond rfl (fun hc=>?_) (fun hc=>?_)|refine T.ret ?_|simp only [za,z8,reduceIte,Nat.reduceEqDiff]|((repeat ((fail_if_success (refine hK _ ?_));clear hK K));refine hK _ ?_;clear hK K))
 all_goals (refine zy.ret (.inr rfl) Try.results36 ?_;simp only [zu,zo,zn,simprocAttr,implies_true,amz,tys,];first|(simp [z5f, *];done)|(simp_all [z5f];done)|(simp_all [z5f];omega))
def z2l (a b:Ev):Bool:=z5f a.kind&&z5f b.kind&&a.g != b.g&&a.obj==b.obj&&a.off==b.off&&(a.kind==2||b.kind==2)
end Go.Proofs.Ytdlgoofjechocaa
namespace Go.Proofs.Ytdlgoofjechocaa
open Go.RowKit Go.Sort Go.Maps
theorem z4S (e n b t:Nat) (o:AO) (R:List (List (List PV))) (h:t<b):zG (mat e n b R) t o=mat e n b R:=by
 unfold zG
 have hk:=z1k e n R b
 rw [List.map_congr_left (g:=id) fun p hp=>by rw [if_neg (by have:=(hk p hp).1;omega)];rfl]
 simp
theorem z3y (e n b t:Nat) (o:AO) (R:List (List (List PV))) (h:t<b):List.map (fun p=>if p.1=t then (t,o) else p) (mat e n b R)=mat e n b R:=z4S e n b t o R h
theorem zk.z3r (fr:List (Nat × AV)) (hfr : ∀ t y,(fr.map fun p=>(p.1,AV.sub (t+1) y p.2))=fr) (n N e0 e:Nat) : ∀ (R:List (List (List PV))) (b:Nat) (pre:List PV),0<b →
  zk ⟨fr,(0,.arow e0 (pre.map .p++owns b R.length)) :: mat e 1 b R,n,N⟩ ⟨fr,[(0,.arow e0 ((pre++R.map (PV.seq 1)).map .p))],n,N⟩
 | [],b,pre,hb=>by simp only [owns,mat,List.length_nil,List.append_nil,List.map_nil];exact zk.refl _
 | r :: R,b,pre,hb=>by
  refine (zk.frz _ b).trans ?_
  have hlk:List.lookup b ((0,AO.arow e0 (pre.map .p++owns b (r :: R).length)) :: mat e 1 b (r :: R))=some (.row e 1 r):=by
   rw [zb (by omega),mat,zi]
  have heq:ASt.frz ⟨fr,(0,.arow e0 (pre.map .p++owns b (r :: R).length)) :: mat e 1 b (r :: R),n,N⟩ b=⟨fr,(0,.arow e0 ((pre ++ [PV.seq 1 r]).map .p++owns (b+1) R.length)) :: mat e 1 (b+1) R,n,N⟩:=by
   unfold ASt.frz
   simp only [hlk,ASt.subst]
   obtain ⟨c,rfl⟩ : ∃ c,b=c+1:=⟨b-1,by omega⟩
   rw [hfr c]
   congr 1
   rw [List.map_cons,List.filter_cons,if_pos (by simp),z4e,mat,List.filter_cons,if_neg (by simp),z6S _ _ _ _ _ (.inl (by omega)),AO.z1T]
   congr 3
   rw [List.length_cons,owns,List.map_append,List.map_cons,z2H _ _ _ _ (.inl (by omega)),List.map_append,List.append_assoc]
   congr 1
   ·rw [List.map_map];exact List.map_congr_left fun x _=>(by simp [AV.sub])
   ·simp [AV.sub]
  rw [heq]
  refine (zk.z3r fr hfr n N e0 e R (b+1) (pre ++ [PV.seq 1 r]) (by omega)).trans (by rw [List.append_assoc];exact zk.refl _)
theorem zk.z8J (fr:List (Nat × AV)) (hfr : ∀ t y,(fr.map fun p=>(p.1,AV.sub (t+1) y p.2))=fr) (n N e0 e b:Nat) (R:List (List (List PV))) (hb : 0<b) :
  zk ⟨fr,(0,.arow e0 (owns b R.length)) :: mat e 1 b R,n,N⟩ ⟨fr,[(0,.row e0 1 (R.map fun r => [.seq 1 r]))],n,N⟩:=by
 refine (zk.z3r fr hfr n N e0 e R b [] hb).trans ?_
 refine (zk.ofA _ 0 e0 (R.map (PV.seq 1)) rfl).trans ?_
 simp only [zG,List.map_cons,List.map_nil,if_true,List.map_map]
 exact zk.refl _
end Go.Proofs.Ytdlgoofjechocaa
namespace Go.Proofs.Ytdlgoofjechocaa
open Go.RowKit Go.Sort
def bvC (b:Bool):List PV := [.val (.bool b)]
def rowR (n:Nat) (g:Nat→Bool):List (List PV):=(List.range n).map fun j=>bvC (g j)
def zP (n:Nat) (f:Nat→Nat→Bool):List (List (List PV)):=(List.range n).map fun i=>rowR n (f i)
theorem qQ (n:Nat) (g:Nat→Bool):(rowR n g).length=n:=by simp [rowR]
theorem z05 (n:Nat) (f:Nat→Nat→Bool):(zP n f).length=n:=by simp [zP]
theorem qX {n j:Nat} (g:Nat→Bool) (h:j<n):(rowR n g)[j]? = some (bvC (g j)):=by
 unfold rowR;rw [List.getElem?_map,List.getElem?_range h];rfl
theorem z0j {n i:Nat} (f:Nat→Nat→Bool) (h:i<n):(zP n f)[i]? = some (rowR n (f i)):=by
 unfold zP;rw [List.getElem?_map,List.getElem?_range h];rfl
def updM (f:Nat→Nat→Bool) (i j:Nat) (b:Bool):Nat→Nat→Bool:=fun x y=>if x=i∧y=j then b else f x y
theorem z2e {n i j:Nat} (f:Nat→Nat→Bool) (b:Bool) (hi:i<n) (hj:j<n):(zP n f).set i ((rowR n (f i)).set j (bvC b))=zP n (updM f i j b):=by
 apply List.ext_getElem?
 intro k
 rw [List.getElem?_set]
 by_cases hk:k<n
 ·rw [z0j _ hk,z0j _ hk]
  by_cases e:i=k
  ·subst e
   rw [if_pos rfl,if_pos (by rw [z05];exact hi)]
   congr 1
   apply List.ext_getElem?
   intro q
   rw [List.getElem?_set]
   by_cases hq:q<n
   ·rw [qX _ hq,qX _ hq]
    by_cases e2:j=q
    ·subst e2;rw [if_pos rfl,if_pos (by rw [qQ];exact hj)];simp [updM]
    ·rw [if_neg e2];simp only [updM,true_and];rw [if_neg (fun h=>e2 h.symm)]
   ·have e2 : ¬ j=q:=by omega
    rw [if_neg e2,List.getElem?_eq_none (by rw [qQ];omega),List.getElem?_eq_none (by rw [qQ];omega)]
  ·rw [if_neg e]
   congr 1
   unfold rowR
   refine List.map_congr_left fun q _=>?_
   simp only [updM]
   rw [if_neg (fun h=>e h.1.symm)]
 ·have e2 : ¬ i=k:=by omega
  rw [if_neg e2,List.getElem?_eq_none (by rw [z05];omega),List.getElem?_eq_none (by rw [z05];omega)]
theorem z2j {n:Nat} {f g:Nat→Nat→Bool} (h : ∀ i j,i<n→j<n→f i j=g i j):zP n f=zP n g:=by
 unfold zP rowR
 refine List.map_congr_left fun i hi=>List.map_congr_left fun j hj=>?_
 rw [h i j (List.mem_range.1 hi) (List.mem_range.1 hj)]
theorem z13 (n:Nat) (b:Bool):rowR n (fun _=>b)=List.replicate n (bvC b):=by
 simp [rowR,List.map_const']
theorem z4w (n:Nat) (b:Bool):zP n (fun _ _=>b)=List.replicate n (List.replicate n (bvC b)):=by
 simp [zP,z13,List.map_const']
def hpM (n:Nat) (f:Nat→Nat→Bool):Hp:=(0,.arow 51 (owns 10 n)) :: mat 4 1 10 (zP n f)
theorem z0b {n:Nat} (f:Nat→Nat→Bool) (hn:n≤1000000) (t:Nat) (o:AO) (h:(hpM n f).lookup t=some o):t<1000010∧o.okB 1000010=true:=by
 unfold hpM at h
 by_cases e:t=0
 ·subst e
  rw [zi] at h;cases h
  exact ⟨by omega,z1Y n 10 1000010 (by omega)⟩
 ·rw [zb e,z0D] at h
  split at h
  ·obtain ⟨r,h1,rfl⟩:=Option.map_eq_some_iff.1 h
   have:=(List.getElem?_eq_some_iff.1 h1).1
   rw [z05] at this
   exact ⟨by omega,rfl⟩
  ·cases h
theorem zk.matD (n:Nat) (f:Nat→Nat→Bool) (q m N:Nat):zk ⟨[(q,.own 0)],hpM n f,m,N⟩ ⟨[(q,.p (.seq 1 ((zP n f).map fun r => [PV.seq 1 r])))],[],m,N⟩:=by
 refine zk.trans (s2:=⟨[(q,.own 0)],(0,.arow 51 (owns 10 (zP n f).length)) :: mat 4 1 10 (zP n f),m,N⟩) (by rw [z05];exact zk.refl _) ?_
 refine (zk.z8J [(q,.own 0)] (fun t y=>by simp [AV.sub]) m N 51 4 10 (zP n f) (by decide)).trans ?_
 refine (zk.frz _ 0).trans ?_
 simp only [ASt.frz,zi,ASt.subst,List.map_cons,List.map_nil,AV.sub,if_true]
 exact zk.refl _
theorem z4E (l:List Ev) (j a:Nat):colB l j j a=false:=by
 unfold colB
 rw [List.any_eq_false]
 intro i hi
 have:=List.mem_range.1 hi
 simp;omega
theorem z8G {α:Type} (l:List α) (p q : α→Bool):(l.any fun x=>p x||q x)=(l.any p||l.any q):=by
 induction l with
 | nil=>rfl
 | cons x r ih=>simp only [List.any_cons,ih];cases p x <;> cases q x <;> simp
theorem z5M (j r:Nat) (c:Bool) (h:r<j):((List.range j).any fun i=>decide (i=r)&&c)=c:=by
 cases c with
 | false=>simp
 | true=>rw [List.any_eq_true];exact ⟨r,List.mem_range.2 h,by simp⟩
theorem z1r (l:List Ev) (j r a:Nat) (h:r<j):colB l j r a=(colB l j (r+1) a||(qi l r j&&(a==r||(decide (a<r)&&hbB l r a)))):=by
 have e:=z5M j r (qi l r j&&(a==r||(decide (a<r)&&hbB l r a))) h
 unfold colB
 rw [← e,← z8G]
 congr 1
 funext i
 by_cases hi:i=r
 ·subst hi;simp;intro h;omega
 ·have:decide (r≤i)=decide (r+1≤i):=by simp;omega
  rw [this];simp [hi]
def stM (l:List Ev) (j:Nat) (g:Nat→Bool):Nat→Nat→Bool:=fun a b=>if b<j then hbB l b a else if b=j then g a else false
def gK (l:List Ev) (j r k:Nat):Nat→Bool:=fun a=>colB l j (r+1) a||(a==r)||(decide (a<k)&&hbB l r a)
theorem z6j (l:List Ev) (n j r:Nat):zP n (updM (stM l j (colB l j (r+1))) r j true)=zP n (stM l j (gK l j r 0)):=by
 congr 1
 funext a b
 simp only [updM,stM,gK]
 by_cases hb:b<j
 ·rw [if_neg (by omega),if_pos hb,if_pos hb]
 ·by_cases hj:b=j
  ·subst hj
   by_cases ha:a=r
   ·subst ha;simp
   ·simp [ha]
  ·rw [if_neg (by omega),if_neg hb,if_neg hb,if_neg hj,if_neg hj]
theorem z8m {l:List Ev} {j r k:Nat} (n:Nat) (hv:hbB l r k=true):zP n (updM (stM l j (gK l j r k)) k j true)=zP n (stM l j (gK l j r (k+1))):=by
 congr 1
 funext a b
 simp only [updM,stM,gK]
 by_cases hb:b<j
 ·rw [if_neg (by omega),if_pos hb,if_pos hb]
 ·by_cases hj:b=j
  ·subst hj
   by_cases ha:a=k
   ·subst ha;simp [hv]
   ·rw [if_neg (fun h=>ha h.1),if_neg hb,if_pos rfl,if_neg hb,if_pos rfl,show decide (a<k+1)=decide (a<k) by simp;omega]
  ·rw [if_neg (by omega),if_neg hb,if_neg hb,if_neg hj,if_neg hj]
theorem st_no {l:List Ev} {j r k:Nat} (n:Nat) (hv:hbB l r k=false):zP n (stM l j (gK l j r k))=zP n (stM l j (gK l j r (k+1))):=by
 congr 1
 funext a b
 simp only [stM,gK]
 by_cases ha:a=k
 ·subst ha;simp [hv]
 ·rw [show decide (a<k+1)=decide (a<k) by simp;omega]
theorem z8K {l:List Ev} {j r:Nat} (n:Nat) (hr:r<j) (h:qi l r j=true):zP n (stM l j (gK l j r r))=zP n (stM l j (colB l j r)):=by
 have:gK l j r r=colB l j r:=by
  funext a
  rw [z1r l j r a hr,gK,h,Bool.true_and,Bool.or_assoc]
 rw [this]
theorem z6e {l:List Ev} {j r:Nat} (n:Nat) (hr:r<j) (h:qi l r j=false):zP n (stM l j (colB l j (r+1)))=zP n (stM l j (colB l j r)):=by
 have:colB l j (r+1)=colB l j r:=by
  funext a
  rw [z1r l j r a hr,h];simp
 rw [this]
theorem z5J (l:List Ev) (n j:Nat):zP n (stM l j (colB l j 0))=zP n (stM l (j+1) fun _=>false):=by
 congr 1
 funext a b
 simp only [stM]
 by_cases hb:b<j
 ·rw [if_pos hb,if_pos (by omega)]
 ·by_cases hj:b=j
  ·subst hj;rw [if_neg hb,if_pos rfl,if_pos (by omega),z8x]
  ·rw [if_neg hb,if_neg hj,if_neg (by omega)];simp
theorem z6A (l:List Ev) (n j:Nat):zP n (stM l j fun _=>false)=zP n (stM l j (colB l j j)):=by
 have:colB l j j=fun _=>false:=by funext a;exact z4E l j a
 rw [this]
theorem z8j (l:List Ev) (n:Nat):zP n (stM l n fun _=>false)=zP n fun a b=>hbB l b a:=by
 refine z2j fun i j hi hj=>?_
 simp only [stM]
 rw [if_pos hj]
theorem z4Q (l:List Ev) (n:Nat):List.replicate n (rowR n fun _=>false)=zP n (stM l 0 fun _=>false):=by
 have:(stM l 0 fun _=>false)=fun _ _=>false:=by funext a b;simp [stM]
 rw [this,z4w,z13]
def arS (n i:Nat):List AV:=owns 10 i++List.replicate (n-i) (.p (.val nilV))
theorem z5Z {n i:Nat} (h:i≤n):(arS n i).length=n:=by simp [arS,qL];omega
theorem z4A {n i:Nat} (h:i<n) (hn:n≤1000000):List.map (AV.ren 1000010 (i+10)) ((arS n i).set i (.own 1000010))=arS n (i+1):=by
 have e1:(arS n i).set i (.own 1000010)=owns 10 i++(.own 1000010 :: List.replicate (n-(i+1)) (.p (.val nilV))):=by
  unfold arS
  rw [List.set_append_right _ _ (by rw [qL];exact Nat.le_refl _),qL,Nat.sub_self,show n-i=(n-(i+1))+1 by omega,List.replicate_succ,List.set_cons_zero]
 rw [e1,List.map_append,List.map_cons,z3I _ _ _ _ (.inr (by omega)) (.inr (by omega)),AV.qK,if_pos rfl,List.map_replicate,AV.z1I,arS,z3i,List.append_assoc]
 rfl
theorem z3q {e:Nat} {cs:List AV} {R:List (List (List PV))} {m:Nat} (h1:cs.all (AV.okB m)=true) (h2 : 10+R.length≤m) (t:Nat) (o:AO) (h:List.lookup t ((0,.arow e cs) :: mat 4 1 10 R)=some o):t<m∧o.okB m=true:=by
 by_cases e:t=0
 ·subst e
  rw [zi] at h;cases h
  exact ⟨by omega,h1⟩
 ·rw [zb e,z0D] at h
  split at h
  ·obtain ⟨r,h1,rfl⟩:=Option.map_eq_some_iff.1 h
   have:=(List.getElem?_eq_some_iff.1 h1).1
   exact ⟨by omega,rfl⟩
  ·cases h
theorem z5o {n i:Nat} (hi:i≤1000000):(arS n i).all (AV.okB 1000010)=true:=by
 unfold arS
 rw [List.all_append,z1Y _ _ _ (by omega),Bool.true_and]
 simp [AV.okB]
theorem z4y (o0:AO) (e n:Nat) (R:List (List (List PV))) (r:List (List PV)) (t:Nat):List.lookup t ((0,o0) :: mat e n 10 (R ++ [r]))=List.lookup t ((R.length+10,.row e n r) :: (0,o0) :: mat e n 10 R):=by
 by_cases h0:t=0
 ·subst h0;rw [zi,zb (by omega),zi]
 ·rw [zb h0]
  by_cases h1:t=R.length+10
  ·subst h1;rw [zi,z0D,if_pos (by omega),Nat.add_sub_cancel,List.getElem?_append_right (Nat.le_refl _),Nat.sub_self];rfl
  ·rw [zb h1,zb h0,z0D,z0D]
   split
   ·by_cases h2:t-10<R.length
    ·rw [List.getElem?_append_left h2]
    ·rw [List.getElem?_eq_none (by simp;omega),List.getElem?_eq_none (by omega)]
   ·rfl
theorem z1R (l:List Ev) (hl:l.length≤1000000):zq Try.prog 27 [.p (.seq 9 (l.map evC))] (.p (.seq 1 ((zP l.length fun a b=>hbB l b a).map fun r => [.seq 1 r]))):=by
 obtain ⟨n,hn⟩ : ∃ n,n=l.length:=⟨_,rfl⟩
 have hml:(n:Int).toNat≤maxLen:=by unfold maxLen;simp;omega
 have hml' : n≤maxLen:=by unfold maxLen;omega
 have hmb : 24*n≤140737488355328:=by omega
 have hmb1 : 1*n≤140737488355328:=by omega
 rw [← hn] at hl ⊢
 refine zq.of Try.func27 rfl 65 rfl (by decide) (by simp [AV.okB]) ?_
 repeat' (first|refine T.zh fun K hK=>?_|refine T.block ?_|(refine T.reg (by kernel_rfl) fun K' hK'=>?_;simp only [bz];(repeat' (first|(with_reducible refine WL.fin ?_;refine hK' _ ?_;clear hK' K')|((with_reducible refine WL.step fun K2 hK2=>?_);simp only [simprocAttr,implies_true,amz,tys,← hn,hml',hmb];(repeat' with_reducible (first|(refine hK2 _ ?_;clear hK2 K2)|refine And.intro ?_ ?_|intro hb))))))|refine T.skip ?_|refine T.exit ?_|refine T.zf rfl ?_|refine T.ze rfl ?_|refine T.cond rfl (fun hc=>?_) (fun hc=>?_)|refine T.ret ?_|simp only [za,z8,reduceIte,Nat.reduceEqDiff]|((repeat ((fail_if_success (refine hK _ ?_));clear hK K));refine hK _ ?_;clear hK K))
 rw [show List.replicate n [PV.val (.slice none 0 0)]=(List.replicate n (PV.val (.slice none 0 0))).map fun x => [x] by simp]
 refine T.weak (zk.toA _ 0 51 _ rfl) ?_
 refine T.weak (zk.upN _ 1000010 (by simp)) ?_
 simp only [zG,List.map_cons,List.map_nil,if_true,List.map_replicate]
 have hR0:rowR n (fun _=>false)=List.replicate n [PV.val (.bool false)]:=z13 n false
 refine T.qc (fun i:Nat=>⟨[(0,.p (.seq 9 (l.map evC))),(2,.p (.val nilV)),(3,.own 0),(4,.int i)],(0,.arow 51 (arS n i)) :: mat 4 1 10 (List.replicate i (rowR n fun _=>false)),65,1000010⟩) (fun i=>i≤n) (fun i=>n-i) 0 (Nat.zero_le _) ?_ ?_
 ·refine zk.frm _ _ _ _ (fun t=>?_) (by simp only [wks,reduceIte,Nat.reduceEqDiff,implies_true,and_self,Int.natCast_zero]) (by simp only [wks,AV.okB,Nat.reduceLT,decide_true,List.all_cons,List.all_nil,Bool.and_self,Int.natCast_zero]) ?_
  ·simp [arS,owns,mat]
  ·exact fun t o h=>z3q (z5o (by omega)) (by simp) t o h
 intro i hi KL hKL
 by_cases hlt:i<n
 ·have hd:decide ((i:Int)<(n:Int))=true:=by simpa using hlt
  have hst:=z4A hlt hl
  have hal:=z5Z (n:=n) (i:=i) (by omega)
  have hz0:(i+10=0)=False:=by simp
  have hne0:List.filter (fun p=>p.1 != 1000010&&p.1 != i+10) (mat 4 1 10 (List.replicate i (rowR n fun _=>false)))=mat 4 1 10 (List.replicate i (rowR n fun _=>false)):=z7N _ _ _ _ _ _ (.inr (by simp;omega)) (.inr (by simp;omega))
  have hz1:(0 != i+10)=true:=by simp
  have hz2:(1000010=i+10)=False:=by simp;omega
  have hz3:(i+10<1000011)=True:=by simp;omega
  repeat' (first|refine T.zh fun K hK=>?_|refine T.block ?_|(refine T.reg (by kernel_rfl) fun K' hK'=>?_;simp only [bz];(repeat' (first|(with_reducible refine WL.fin ?_;refine hK' _ ?_;clear hK' K')|((with_reducible refine WL.step fun K2 hK2=>?_);simp only [simprocAttr,implies_true,amz,tys,← hn,hd,hml',hmb,hmb1,hal,hlt,z3y,z3j];(repeat' with_reducible (first|(refine hK2 _ ?_;clear hK2 K2)|refine And.intro ?_ ?_|intro hb))))))|refine T.skip ?_|refine T.exit ?_|refine T.zf rfl ?_|refine T.ze rfl ?_|refine T.cond rfl (fun hc=>?_) (fun hc=>?_)|refine T.ret ?_|simp only [za,z8,reduceIte,Nat.reduceEqDiff]|((repeat ((fail_if_success (refine hK _ ?_));clear hK K));refine hK _ ?_;clear hK K))
  have hrep:mat 4 1 10 (List.replicate (i+1) (rowR n fun _=>false))=mat 4 1 10 (List.replicate i (rowR n fun _=>false) ++ [List.replicate n [PV.val (.bool false)]]):=by rw [List.replicate_succ',hR0]
  refine hKL _ (i+1) ((zk.ren _ 1000010 (i+10)).trans ?_) (by omega) (by omega)
  rw [hrep]
  simp only [ASt.ren,AV.qK,AV.z0p,AV.z06,AV.z0C,AV.z1I,AV.z0F,AV.z0a,AV.z08,AV.z1p,AV.z0E,AV.z0G,AO.z0O,AO.z0c,AO.z10,AO.z0W,List.map_cons,List.map_nil,List.filter_cons,List.filter_nil,zx,qf,reduceIte,Nat.reduceEqDiff,Nat.reduceLT,Nat.reduceBneDiff,bne_self_eq_false,Bool.and_true,Bool.and_false,Bool.true_and,Bool.false_and,Bool.and_self,Bool.false_eq_true,ne_eq,not_false_eq_true,not_true_eq_false,and_self,and_true,true_and,and_false,AO.z2G,hz0,hne0,hz1,hz2,hz3,z7r,hst]
  refine zk.frm _ _ _ _ (fun t=>?_) (by simp only [wks,reduceIte,Nat.reduceEqDiff,implies_true,and_self,zm (show i<1152921504606846976 by omega)]) (by simp only [wks,AV.okB,Nat.reduceLT,decide_true,List.all_cons,List.all_nil,Bool.and_self,zm (show i<1152921504606846976 by omega)]) ?_
  ·rw [z4y,List.length_replicate]
  ·exact fun t o h=>z3q (z5o (by omega)) (by simp;omega) t o h
 ·have hd:decide ((i:Int)<(n:Int))=false:=by simpa using hlt
  have hin:n=i:=by omega
  subst hin
  repeat' (first|refine T.zh fun K hK=>?_|refine T.block ?_|(refine T.reg (by kernel_rfl) fun K' hK'=>?_;simp only [bz];(repeat' (first|(with_reducible refine WL.fin ?_;refine hK' _ ?_;clear hK' K')|((with_reducible refine WL.step fun K2 hK2=>?_);simp only [simprocAttr,implies_true,amz,tys,← hn,hd];(repeat' with_reducible (first|(refine hK2 _ ?_;clear hK2 K2)|refine And.intro ?_ ?_|intro hb))))))|refine T.skip ?_|refine T.exit ?_|refine T.zf rfl ?_|refine T.ze rfl ?_|refine T.cond rfl (fun hc=>?_) (fun hc=>?_)|refine T.ret ?_|simp only [za,z8,reduceIte,Nat.reduceEqDiff]|((repeat ((fail_if_success (refine hK _ ?_));clear hK K));refine hK _ ?_;clear hK K))
  refine T.qc (fun j:Nat=>⟨[(0,.p (.seq 9 (l.map evC))),(2,.p (.val nilV)),(3,.own 0),(5,.int j)],hpM n (stM l j fun _=>false),65,1000010⟩) (fun j=>j≤n) (fun j=>n-j) 0 (Nat.zero_le _) ?_ ?_
  ·refine zk.frm _ _ _ _ (fun t=>?_) (by simp only [wks,reduceIte,Nat.reduceEqDiff,implies_true,and_self,Int.natCast_zero]) (by simp only [wks,AV.okB,Nat.reduceLT,decide_true,List.all_cons,List.all_nil,Bool.and_self,Int.natCast_zero]) ?_
   ·rw [hpM,← z4Q,show arS n n=owns 10 n by simp [arS]]
   ·exact fun t o h=>z0b _ hl t o h
  intro j hj KL2 hKL2
  by_cases hjn:j<n
  ·have hdj:decide ((j:Int)<(n:Int))=true:=by simpa using hjn
   have hw1:IntKind.i64.wrap ((j:Int)-1)=(j:Int)-1:=by rw [IntKind.wrap_i64];omega
   obtain ⟨y,hy⟩:=zT (show j<l.length by omega)
   repeat' (first|refine T.zh fun K hK=>?_|refine T.block ?_|(refine T.reg (by kernel_rfl) fun K' hK'=>?_;simp only [bz];(repeat' (first|(with_reducible refine WL.fin ?_;refine hK' _ ?_;clear hK' K')|((with_reducible refine WL.step fun K2 hK2=>?_);simp only [simprocAttr,implies_true,amz,tys,← hn,hdj,hw1];(repeat' with_reducible (first|(refine hK2 _ ?_;clear hK2 K2)|refine And.intro ?_ ?_|intro hb))))))|refine T.skip ?_|refine T.exit ?_|refine T.zf rfl ?_|refine T.ze rfl ?_|refine T.cond rfl (fun hc=>?_) (fun hc=>?_)|refine T.ret ?_|simp only [za,z8,reduceIte,Nat.reduceEqDiff]|((repeat ((fail_if_success (refine hK _ ?_));clear hK K));refine hK _ ?_;clear hK K))
   refine T.qc (fun r:Nat=>⟨[(0,.p (.seq 9 (l.map evC))),(2,.p (.val nilV)),(3,.own 0),(5,.int j),(6,.int ((r:Int)-1))],hpM n (stM l j (colB l j r)),65,1000010⟩) (fun r=>r≤j) (fun r=>r) j (Nat.le_refl _) ?_ ?_
   ·refine zk.frm _ _ _ _ (fun t=>?_) (by simp only [wks,reduceIte,Nat.reduceEqDiff,implies_true,and_self,]) (by simp only [wks,AV.okB,Nat.reduceLT,decide_true,List.all_cons,List.all_nil,Bool.and_self,]) ?_
    ·rw [hpM,hpM,z6A]
    ·exact fun t o h=>z0b _ hl t o h
   intro r hr KL3 hKL3
   rcases r with _|r
   ·have hd3:decide ((0:Int)≤((0:Nat):Int)-1)=false:=by decide
    repeat' (first|refine T.zh fun K hK=>?_|refine T.block ?_|(refine T.reg (by kernel_rfl) fun K' hK'=>?_;simp only [bz];(repeat' (first|(with_reducible refine WL.fin ?_;refine hK' _ ?_;clear hK' K')|((with_reducible refine WL.step fun K2 hK2=>?_);simp only [simprocAttr,implies_true,amz,tys,← hn,hd3];(repeat' with_reducible (first|(refine hK2 _ ?_;clear hK2 K2)|refine And.intro ?_ ?_|intro hb))))))|refine T.skip ?_|refine T.exit ?_|refine T.zf rfl ?_|refine T.ze rfl ?_|refine T.cond rfl (fun hc=>?_) (fun hc=>?_)|refine T.ret ?_|simp only [za,z8,reduceIte,Nat.reduceEqDiff]|((repeat ((fail_if_success (refine hK _ ?_));clear hK K));refine hK _ ?_;clear hK K))
    refine hKL2 _ (j+1) ?_ (by omega) (by omega)
    refine zk.frm _ _ _ _ (fun t=>?_) (by simp only [wks,reduceIte,Nat.reduceEqDiff,implies_true,and_self,zm (show j<1152921504606846976 by omega)]) (by simp only [wks,AV.okB,Nat.reduceLT,decide_true,List.all_cons,List.all_nil,Bool.and_self,zm (show j<1152921504606846976 by omega)]) ?_
    ·rw [hpM,hpM,z5J]
    ·exact fun t o h=>z0b _ hl t o h
   ·have hr1:(((r+1:Nat):Int)-1)=(r:Int):=by omega
    have hwr:IntKind.i64.wrap ((r:Int)-1)=(r:Int)-1:=by rw [IntKind.wrap_i64];omega
    rw [hr1]
    obtain ⟨x,hx⟩:=zT (show r<l.length by omega)
    have himm:=z6K l r j x y hx hy (by omega) (by omega)
    have hiL:=z6v hx hy
    cases hb:immB l x y r j with
    | false =>
     rw [hb] at himm hiL
     repeat' (first|refine T.zh fun K hK=>?_|refine T.block ?_|(refine T.reg (by kernel_rfl) fun K' hK'=>?_;simp only [bz];(repeat' (first|(with_reducible refine WL.fin ?_;refine hK' _ ?_;clear hK' K')|((with_reducible refine WL.step fun K2 hK2=>?_);simp only [simprocAttr,implies_true,amz,tys,← hn,hwr,decide_true];(repeat' (first|with_reducible (first|(refine hK2 _ ?_;clear hK2 K2)|refine And.intro ?_ ?_|intro hb)|((first|(with_reducible apply zg)|(with_reducible apply zl));case h=>exact CallV.plain (Ent.of Try.func30 (by kernel_rfl) rfl) (himm) (by simp [AV.okB]))))))))|refine T.skip ?_|refine T.exit ?_|refine T.zf rfl ?_|refine T.ze rfl ?_|refine T.cond rfl (fun hc=>?_) (fun hc=>?_)|refine T.ret ?_|simp only [za,z8,reduceIte,Nat.reduceEqDiff]|((repeat ((fail_if_success (refine hK _ ?_));clear hK K));refine hK _ ?_;clear hK K))
     refine hKL3 _ r ?_ (by omega) (by omega)
     refine zk.frm _ _ _ _ (fun t=>?_) (by simp only [wks,reduceIte,Nat.reduceEqDiff,implies_true,and_self,]) (by simp only [wks,AV.okB,Nat.reduceLT,decide_true,List.all_cons,List.all_nil,Bool.and_self,]) ?_
     ·rw [hpM,hpM,z6e n (by omega) hiL]
     ·exact fun t o h=>z0b _ hl t o h
    | true =>
     rw [hb] at himm hiL
     have hrn:r<n:=by omega
     obtain ⟨f,hf⟩ : ∃ f,f=stM l j (colB l j (r+1)):=⟨_,rfl⟩
     rw [← hf]
     simp only [hpM]
     have o1:=z0L n 10 r hrn
     have o2:=qL n 10
     have m1:=z0j f hrn
     have m2:=qX (f r) hjn
     have m3:=qQ n (f r)
     have m4:List.set (zP n f) r (List.set (rowR n (f r)) j [PV.val (.bool true)])=zP n (updM f r j true):=z2e f true hrn hjn
     have hz0:(r+10=0)=False:=by simp
     repeat' (first|refine T.zh fun K hK=>?_|refine T.block ?_|(refine T.reg (by kernel_rfl) fun K' hK'=>?_;simp only [bz];(repeat' (first|(with_reducible refine WL.fin ?_;refine hK' _ ?_;clear hK' K')|((with_reducible refine WL.step fun K2 hK2=>?_);simp only [simprocAttr,implies_true,amz,tys,← hn,hwr,decide_true,o1,o2,hrn,hjn,hz0,z2o,m1,bvC,m2,m3,z2M,m4];(repeat' (first|with_reducible (first|(refine hK2 _ ?_;clear hK2 K2)|refine And.intro ?_ ?_|intro hb)|((first|(with_reducible apply zg)|(with_reducible apply zl));case h=>exact CallV.plain (Ent.of Try.func30 (by kernel_rfl) rfl) (himm) (by simp [AV.okB]))))))))|refine T.skip ?_|refine T.exit ?_|refine T.zf rfl ?_|refine T.ze rfl ?_|refine T.cond rfl (fun hc=>?_) (fun hc=>?_)|refine T.ret ?_|simp only [za,z8,reduceIte,Nat.reduceEqDiff]|((repeat ((fail_if_success (refine hK _ ?_));clear hK K));refine hK _ ?_;clear hK K))
     refine T.qc (fun k:Nat=>⟨[(0,.p (.seq 9 (l.map evC))),(2,.p (.val nilV)),(3,.own 0),(5,.int j),(6,.int r),(7,.int k)],hpM n (stM l j (gK l j r k)),65,1000010⟩) (fun k=>k≤r) (fun k=>r-k) 0 (Nat.zero_le _) ?_ ?_
     ·refine zk.frm _ _ _ _ (fun t=>?_) (by simp only [wks,reduceIte,Nat.reduceEqDiff,implies_true,and_self,Int.natCast_zero]) (by simp only [wks,AV.okB,Nat.reduceLT,decide_true,List.all_cons,List.all_nil,Bool.and_self,Int.natCast_zero]) ?_
      ·rw [hpM,hf,z6j]
      ·exact fun t o h=>z0b _ hl t o h
     intro k hk KL4 hKL4
     by_cases hkr:k<r
     ·have hdk:decide ((k:Int)<(r:Int))=true:=by simpa using hkr
      have hkn:k<n:=by omega
      have hval:stM l j (gK l j r k) k r=hbB l r k:=by simp only [stM];rw [if_pos (by omega)]
      cases hv:hbB l r k with
      | false =>
       obtain ⟨g,hg⟩ : ∃ g,g=stM l j (gK l j r k):=⟨_,rfl⟩
       rw [← hg,hv] at hval
       rw [← hg]
       simp only [hpM]
       have o1:=z0L n 10 k hkn
       have m1:=z0j g hkn
       have m2:=qX (g k) hrn
       have m3:=qQ n (g k)
       have hz0:(k+10=0)=False:=by simp
       repeat' (first|refine T.zh fun K hK=>?_|refine T.block ?_|(refine T.reg (by kernel_rfl) fun K' hK'=>?_;simp only [bz];(repeat' (first|(with_reducible refine WL.fin ?_;refine hK' _ ?_;clear hK' K')|((with_reducible refine WL.step fun K2 hK2=>?_);simp only [simprocAttr,implies_true,amz,tys,← hn,hdk,o1,o2,hkn,hrn,hjn,hz0,z2o,m1,bvC,m2,m3,hval];(repeat' with_reducible (first|(refine hK2 _ ?_;clear hK2 K2)|refine And.intro ?_ ?_|intro hb))))))|refine T.skip ?_|refine T.exit ?_|refine T.zf rfl ?_|refine T.ze rfl ?_|refine T.cond rfl (fun hc=>?_) (fun hc=>?_)|refine T.ret ?_|simp only [za,z8,reduceIte,Nat.reduceEqDiff]|((repeat ((fail_if_success (refine hK _ ?_));clear hK K));refine hK _ ?_;clear hK K))
       refine hKL4 _ (k+1) ?_ (by omega) (by omega)
       refine zk.frm _ _ _ _ (fun t=>?_) (by simp only [wks,reduceIte,Nat.reduceEqDiff,implies_true,and_self,zm (show k<1152921504606846976 by omega)]) (by simp only [wks,AV.okB,Nat.reduceLT,decide_true,List.all_cons,List.all_nil,Bool.and_self,zm (show k<1152921504606846976 by omega)]) ?_
       ·rw [hpM,hg,st_no n hv]
       ·exact fun t o h=>z0b _ hl t o h
      | true =>
       obtain ⟨g,hg⟩ : ∃ g,g=stM l j (gK l j r k):=⟨_,rfl⟩
       rw [← hg,hv] at hval
       rw [← hg]
       simp only [hpM]
       have o1:=z0L n 10 k hkn
       have m1:=z0j g hkn
       have m2:=qX (g k) hrn
       have m5:=qX (g k) hjn
       have m3:=qQ n (g k)
       have m4:List.set (zP n g) k (List.set (rowR n (g k)) j [PV.val (.bool true)])=zP n (updM g k j true):=z2e g true hkn hjn
       have hz0:(k+10=0)=False:=by simp
       repeat' (first|refine T.zh fun K hK=>?_|refine T.block ?_|(refine T.reg (by kernel_rfl) fun K' hK'=>?_;simp only [bz];(repeat' (first|(with_reducible refine WL.fin ?_;refine hK' _ ?_;clear hK' K')|((with_reducible refine WL.step fun K2 hK2=>?_);simp only [simprocAttr,implies_true,amz,tys,← hn,hdk,o1,o2,hkn,hrn,hjn,hz0,z2o,m1,bvC,m2,m3,m5,hval,z2M,m4];(repeat' with_reducible (first|(refine hK2 _ ?_;clear hK2 K2)|refine And.intro ?_ ?_|intro hb))))))|refine T.skip ?_|refine T.exit ?_|refine T.zf rfl ?_|refine T.ze rfl ?_|refine T.cond rfl (fun hc=>?_) (fun hc=>?_)|refine T.ret ?_|simp only [za,z8,reduceIte,Nat.reduceEqDiff]|((repeat ((fail_if_success (refine hK _ ?_));clear hK K));refine hK _ ?_;clear hK K))
       refine hKL4 _ (k+1) ?_ (by omega) (by omega)
       refine zk.frm _ _ _ _ (fun t=>?_) (by simp only [wks,reduceIte,Nat.reduceEqDiff,implies_true,and_self,zm (show k<1152921504606846976 by omega)]) (by simp only [wks,AV.okB,Nat.reduceLT,decide_true,List.all_cons,List.all_nil,Bool.and_self,zm (show k<1152921504606846976 by omega)]) ?_
       ·rw [hpM,hg,z8m n hv]
       ·exact fun t o h=>z0b _ hl t o h
     ·have hdk:decide ((k:Int)<(r:Int))=false:=by simpa using hkr
      have hkr' : r=k:=by omega
      subst hkr'
      repeat' (first|refine T.zh fun K hK=>?_|refine T.block ?_|(refine T.reg (by kernel_rfl) fun K' hK'=>?_;simp only [bz];(repeat' (first|(with_reducible refine WL.fin ?_;refine hK' _ ?_;clear hK' K')|((with_reducible refine WL.step fun K2 hK2=>?_);simp only [simprocAttr,implies_true,amz,tys,← hn,hdk,hwr];(repeat' with_reducible (first|(refine hK2 _ ?_;clear hK2 K2)|refine And.intro ?_ ?_|intro hb))))))|refine T.skip ?_|refine T.exit ?_|refine T.zf rfl ?_|refine T.ze rfl ?_|refine T.cond rfl (fun hc=>?_) (fun hc=>?_)|refine T.ret ?_|simp only [za,z8,reduceIte,Nat.reduceEqDiff]|((repeat ((fail_if_success (refine hK _ ?_));clear hK K));refine hK _ ?_;clear hK K))
      refine hKL3 _ r ?_ (by omega) (by omega)
      refine zk.frm _ _ _ _ (fun t=>?_) (by simp only [wks,reduceIte,Nat.reduceEqDiff,implies_true,and_self,]) (by simp only [wks,AV.okB,Nat.reduceLT,decide_true,List.all_cons,List.all_nil,Bool.and_self,]) ?_
      ·rw [hpM,hpM,z8K n (by omega) hiL]
      ·exact fun t o h=>z0b _ hl t o h
  ·have hdj:decide ((j:Int)<(n:Int))=false:=by simpa using hjn
   have hin:n=j:=by omega
   subst hin
   repeat' (first|refine T.zh fun K hK=>?_|refine T.block ?_|(refine T.reg (by kernel_rfl) fun K' hK'=>?_;simp only [bz];(repeat' (first|(with_reducible refine WL.fin ?_;refine hK' _ ?_;clear hK' K')|((with_reducible refine WL.step fun K2 hK2=>?_);simp only [simprocAttr,implies_true,amz,tys,← hn,hdj];(repeat' with_reducible (first|(refine hK2 _ ?_;clear hK2 K2)|refine And.intro ?_ ?_|intro hb))))))|refine T.skip ?_|refine T.exit ?_|refine T.zf rfl ?_|refine T.ze rfl ?_|refine T.cond rfl (fun hc=>?_) (fun hc=>?_)|refine T.ret ?_|simp only [za,z8,reduceIte,Nat.reduceEqDiff]|((repeat ((fail_if_success (refine hK _ ?_));clear hK K));refine hK _ ?_;clear hK K))
   refine zy.retW (.inr rfl) Try.results27 (zk.trans (s2:=⟨[(2,.own 0)],hpM n fun a b=>hbB l b a,65,1000010⟩) ?_ (zk.matD _ _ _ _ _)) ?_
   ·refine zk.frm _ _ _ _ (fun t=>?_) (by simp only [wks,reduceIte,Nat.reduceEqDiff,implies_true,and_self,]) (by simp only [wks,AV.okB,Nat.reduceLT,decide_true,List.all_cons,List.all_nil,Bool.and_self,]) ?_
    ·rw [hpM,hpM,z8j]
    ·exact fun t o h=>z0b _ hl t o h
   ·simp only [zu,zo,zn,simprocAttr,implies_true,amz,tys]
end Go.Proofs.Ytdlgoofjechocaa
namespace Go.Proofs.Ytdlgoofjechocaa
open Go.RowKit Go.Sort Go.Maps
theorem z8B (a b:Ev):zq Try.prog 29 [evA a,evA b] (.bool (z2l a b)):=by
 simp only [evA,evC,List.map_cons,List.map_nil]
 refine zq.of Try.func29 rfl 44 rfl (by decide) (by simp [AV.okB]) ?_
 repeat' (first|refine T.zh fun K hK=>?_|refine T.block ?_|(refine T.reg (by kernel_rfl) fun K' hK'=>?_;simp only [bz];(repeat' (first|(with_reducible refine WL.fin ?_;refine hK' _ ?_;clear hK' K')|((with_reducible refine WL.step fun K2 hK2=>?_);simp only [simprocAttr,implies_true,amz,tys];(repeat' (first|with_reducible (first|(refine hK2 _ ?_;clear hK2 K2)|refine And.intro ?_ ?_|intro hb)|((first|(with_reducible apply zg)|(with_reducible apply zl));case h=>exact CallV.plain (Ent.of Try.func36 (by kernel_rfl) rfl) (zaz _) (by simp [AV.okB]))))))))|refine T.skip ?_|refine T.exit ?_|refine T.zf rfl ?_|refine T.ze rfl ?_|refine T.cond rfl (fun hc=>?_) (fun hc=>?_)|refine T.ret ?_|simp only [za,z8,reduceIte,Nat.reduceEqDiff]|((repeat ((fail_if_success (refine hK _ ?_));clear hK K));refine hK _ ?_;clear hK K))
 all_goals (refine zy.ret (.inr rfl) Try.results29 ?_;simp only [zu,zo,zn,simprocAttr,implies_true,amz,tys,];first|(simp [z2l, *];done)|(simp_all [z2l];done)|(simp_all [z2l];omega))
def rowQ (r:List (Nat × Nat)):List (List PV):=r.map raC
theorem z9T (r:List (Nat × Nat)):(rowQ r).length=r.length:=by simp [rowQ]
theorem rowQ_snoc (r:List (Nat × Nat)) (x:Nat × Nat):rowQ r ++ [[PV.val (.int .i64 (x.1:Int)),.val (.int .i64 (x.2:Int))]]=rowQ (r ++ [x]):=by simp [rowQ,raC]
theorem nilQ:rowQ [] = []:=rfl
def prJ (p:Nat→Nat→Bool) (j k:Nat):List (Nat × Nat):=(rgF (fun i=>p i j) k).map fun i=>(i,j)
def prU (p:Nat→Nat→Bool) (b:Nat→Nat):Nat→List (Nat × Nat)
 | 0 => []
 | j+1=>prU p b j++prJ p j (b j)
theorem prJ_zero (p:Nat→Nat→Bool) (j:Nat):prJ p j 0 = []:=rfl
theorem prJ_succ (p:Nat→Nat→Bool) (j k:Nat):prJ p j (k+1)=prJ p j k++if p k j then [(k,j)] else []:=by
 unfold prJ
 rw [z0T,List.map_append]
 split <;> rfl
theorem prJ_len (p:Nat→Nat→Bool) (j k:Nat):(prJ p j k).length≤k:=by
 unfold prJ;rw [List.length_map];exact z3d _ k
theorem prU_len (p:Nat→Nat→Bool) (b:Nat→Nat) (m:Nat) (hb : ∀ j,b j≤j+1) : ∀ j,j≤m→(prU p b j).length≤j*m
 | 0,_=>by simp [prU]
 | j+1,h=>by
  have h1:=prU_len p b m hb j (by omega)
  have h2:=prJ_len p j (b j)
  have h3:=hb j
  rw [prU,List.length_append,Nat.add_mul]
  omega
def confL (l:List Ev) (i j:Nat):Bool:=match l[i]?,l[j]? with
 | some a,some b=>z2l a b
 | _,_=>false
theorem confL_eq {l:List Ev} {i j:Nat} {a b:Ev} (h1:l[i]? = some a) (h2:l[j]? = some b):confL l i j=z2l a b:=by simp [confL,h1,h2]
def hbM (l:List Ev):Nat→Nat→Bool:=fun a b=>hbB l b a
def racR (l:List Ev) (i j:Nat):Bool:=confL l i j && !hbM l i j
def z4t (l:List Ev):List (Nat × Nat):=if (qx l).2 then prU (racR l) (fun j=>j) l.length else []
theorem racesR_ok (l:List Ev) (hl:l.length≤100000):zq Try.prog 16 [.p (.seq 9 (l.map evC))] (.p (.seq 2 (rowQ (z4t l)))):=by
 have hv:=z1u l (by omega)
 cases h5:(qx l).2 with
 | false =>
  rw [h5] at hv
  have hr:z4t l = []:=by simp [z4t,h5]
  refine zq.of Try.func16 rfl 49 rfl (by decide) (by simp [AV.okB]) ?_
  repeat' (first|refine T.zh fun K hK=>?_|refine T.block ?_|(refine T.reg (by kernel_rfl) fun K' hK'=>?_;simp only [bz];(repeat' (first|(with_reducible refine WL.fin ?_;refine hK' _ ?_;clear hK' K')|((with_reducible refine WL.step fun K2 hK2=>?_);simp only [simprocAttr,implies_true,amz,abin,tys];(repeat' (first|with_reducible (first|(refine hK2 _ ?_;clear hK2 K2)|refine And.intro ?_ ?_|intro hb)|((first|(with_reducible apply zg)|(with_reducible apply zl));case h=>exact CallV.plain (Ent.of Try.func13 (by kernel_rfl) rfl) (hv) (by simp [AV.okB]))))))))|refine T.skip ?_|refine T.exit ?_|refine T.zf rfl ?_|refine T.ze rfl ?_|refine T.cond rfl (fun hc=>?_) (fun hc=>?_)|refine T.ret ?_|simp only [za,z8,reduceIte,Nat.reduceEqDiff]|((repeat ((fail_if_success (refine hK _ ?_));clear hK K));refine hK _ ?_;clear hK K))
  refine zy.retW (.inr rfl) Try.results16 (s':=⟨[(2,.p (.seq 2 []))],[],49,0⟩) (by refine zk.of' rfl ?_;simp only [wks,reduceIte,Nat.reduceEqDiff,ASt.okB,AV.okB,Nat.reduceLT,implies_true,]) ?_
  rw [hr];simp only [zu,zo,zn,nilQ,simprocAttr,implies_true,amz,abin,tys]
 | true =>
  rw [h5] at hv
  have hc:zq Try.prog 27 [.p (.seq 9 (l.map evC))] (.p (.seq 1 ((zP l.length (hbM l)).map fun r => [.seq 1 r]))):=z1R l (by omega)
  have hr:z4t l=prU (racR l) (fun j=>j) l.length:=by simp [z4t,h5]
  rw [hr]
  obtain ⟨n,hn⟩ : ∃ n,n=l.length:=⟨_,rfl⟩
  rw [← hn] at hc ⊢
  refine zq.of Try.func16 rfl 49 rfl (by decide) (by simp [AV.okB]) ?_
  repeat' (first|refine T.zh fun K hK=>?_|refine T.block ?_|(refine T.reg (by kernel_rfl) fun K' hK'=>?_;simp only [bz];(repeat' (first|(with_reducible refine WL.fin ?_;refine hK' _ ?_;clear hK' K')|((with_reducible refine WL.step fun K2 hK2=>?_);simp only [simprocAttr,implies_true,amz,abin,tys,← hn];(repeat' (first|with_reducible (first|(refine hK2 _ ?_;clear hK2 K2)|refine And.intro ?_ ?_|intro hb)|((first|(with_reducible apply zg)|(with_reducible apply zl));case h=>exact CallV.plain (Ent.of Try.func13 (by kernel_rfl) rfl) (hv) (by simp [AV.okB]))|((first|(with_reducible apply zg)|(with_reducible apply zl));case h=>exact CallV.plain (Ent.of Try.func27 (by kernel_rfl) rfl) (hc) (by simp [AV.okB]))))))))|refine T.skip ?_|refine T.exit ?_|refine T.zf rfl ?_|refine T.ze rfl ?_|refine T.cond rfl (fun hc=>?_) (fun hc=>?_)|refine T.ret ?_|simp only [za,z8,reduceIte,Nat.reduceEqDiff]|((repeat ((fail_if_success (refine hK _ ?_));clear hK K));refine hK _ ?_;clear hK K))
  refine T.weak (zk.z5N _ 4 37 2 (show 4<49 by decide) rfl) ?_;simp only [ASt.add,zH,Nat.reduceAdd]
  refine T.qc (fun j:Nat=>⟨[(0,.p (.seq 9 (l.map evC))),(3,.p (.seq 1 ((zP n (hbM l)).map fun r => [PV.seq 1 r]))),(4,.own 0),(5,.int j)],[(0,.row 37 2 (rowQ (prU (racR l) (fun j=>j) j)))],49,1⟩) (fun j=>j≤n) (fun j=>n-j) 0 (Nat.zero_le _) (by refine zk.of' rfl ?_;simp only [wks,reduceIte,Nat.reduceEqDiff,ASt.okB,AV.okB,Nat.reduceLT,implies_true,Int.natCast_zero,prU,nilQ]) ?_
  intro j hj KL hKL
  by_cases hjn:j<n
  ·have hd:decide ((j:Int)<(n:Int))=true:=by simpa using hjn
   obtain ⟨y,hy⟩:=zT (show j<l.length by omega)
   repeat' (first|refine T.zh fun K hK=>?_|refine T.block ?_|(refine T.reg (by kernel_rfl) fun K' hK'=>?_;simp only [bz];(repeat' (first|(with_reducible refine WL.fin ?_;refine hK' _ ?_;clear hK' K')|((with_reducible refine WL.step fun K2 hK2=>?_);simp only [simprocAttr,implies_true,amz,abin,tys,hd,← hn];(repeat' with_reducible (first|(refine hK2 _ ?_;clear hK2 K2)|refine And.intro ?_ ?_|intro hb))))))|refine T.skip ?_|refine T.exit ?_|refine T.zf rfl ?_|refine T.ze rfl ?_|refine T.cond rfl (fun hc=>?_) (fun hc=>?_)|refine T.ret ?_|simp only [za,z8,reduceIte,Nat.reduceEqDiff]|((repeat ((fail_if_success (refine hK _ ?_));clear hK K));refine hK _ ?_;clear hK K))
   refine T.qc (fun k:Nat=>⟨[(0,.p (.seq 9 (l.map evC))),(3,.p (.seq 1 ((zP n (hbM l)).map fun r => [PV.seq 1 r]))),(4,.own 0),(5,.int j),(6,.int k)],[(0,.row 37 2 (rowQ (prU (racR l) (fun j=>j) j++prJ (racR l) j k)))],49,1⟩) (fun k=>k≤j) (fun k=>j-k) 0 (Nat.zero_le _) (by refine zk.of' rfl ?_;simp only [wks,reduceIte,Nat.reduceEqDiff,ASt.okB,AV.okB,Nat.reduceLT,implies_true,Int.natCast_zero,prJ_zero,List.append_nil]) ?_
   intro k hk KL2 hKL2
   by_cases hkj:k<j
   ·have hd2:decide ((k:Int)<(j:Int))=true:=by simpa using hkj
    obtain ⟨x,hx⟩:=zT (show k<l.length by omega)
    have hcf:=z8B x y
    rw [← confL_eq hx hy] at hcf
    simp only [evA,evC,List.map_cons,List.map_nil] at hcf
    have m1:=z0j (hbM l) (show k<n by omega)
    have m2:=qX (hbM l k) hjn
    obtain ⟨r,hr2⟩ : ∃ r,r=prU (racR l) (fun j=>j) j++prJ (racR l) j k:=⟨_,rfl⟩
    have hrl:r.length≤100000*100000+100000:=by
     rw [hr2,List.length_append]
     have q1:=prU_len (racR l) (fun j=>j) n (fun _=>Nat.le_succ _) j (by omega)
     have q2:=prJ_len (racR l) j k
     have q3:j*n≤100000*100000:=Nat.mul_le_mul (by omega) (by omega)
     omega
    have hm0 : 1≤maxLen:=by unfold maxLen;omega
    have hm1:r.length+1≤maxLen:=by unfold maxLen;omega
    have hm2:(r.length+1)*16≤140737488355328:=by omega
    have hnext:prU (racR l) (fun j=>j) j++prJ (racR l) j (k+1)=r++if racR l k j then [(k,j)] else []:=by rw [prJ_succ,← List.append_assoc,hr2]
    have hsn:=rowQ_snoc r (k,j)
    rw [← hr2]
    cases hcl:confL l k j with
    | false =>
     rw [hcl] at hcf
     have hp:racR l k j=false:=by simp [racR,hcl]
     repeat' (first|refine T.zh fun K hK=>?_|refine T.block ?_|(refine T.reg (by kernel_rfl) fun K' hK'=>?_;simp only [bz];(repeat' (first|(with_reducible refine WL.fin ?_;refine hK' _ ?_;clear hK' K')|((with_reducible refine WL.step fun K2 hK2=>?_);simp only [simprocAttr,implies_true,amz,abin,tys,hd2];(repeat' with_reducible (first|(refine hK2 _ ?_;clear hK2 K2)|refine And.intro ?_ ?_|intro hb))))))|refine T.skip ?_|refine T.exit ?_|refine T.zf rfl ?_|refine T.ze rfl ?_|refine T.cond rfl (fun hc=>?_) (fun hc=>?_)|refine T.ret ?_|simp only [za,z8,reduceIte,Nat.reduceEqDiff]|((repeat ((fail_if_success (refine hK _ ?_));clear hK K));refine hK _ ?_;clear hK K))
     refine T.drw 15 (by kernel_rfl) (by kernel_rfl) fun K' hK'=>?_;simp only [List.map_cons,List.map_nil];(repeat' (first|(with_reducible refine WL.fin ?_;refine hK' _ ?_;clear hK' K')|(with_reducible refine WD.fin ?_)|((with_reducible first|refine WL.step fun K2 hK2=>?_|refine WD.step fun K2 hK2=>?_);simp only [simprocAttr,implies_true,amz,abin,tys,hx,hy,evC,m1,m2,bvC];(repeat' (first|with_reducible (first|(refine hK2 _ ?_;clear hK2 K2)|refine And.intro ?_ ?_|intro hb)|((first|(with_reducible apply zg)|(with_reducible apply zl));case h=>exact CallV.plain (Ent.of Try.func29 (by kernel_rfl) rfl) (hcf) (by simp [AV.okB])))))));all_goals ((try simp only [za,z8,reduceIte,Nat.reduceEqDiff]);(try ((repeat ((fail_if_success (refine hK _ ?_));clear hK K));refine hK _ ?_;clear hK K)))
     all_goals repeat' (first|refine T.zh fun K hK=>?_|refine T.block ?_|(refine T.reg (by kernel_rfl) fun K' hK'=>?_;simp only [bz];(repeat' (first|(with_reducible refine WL.fin ?_;refine hK' _ ?_;clear hK' K')|((with_reducible refine WL.step fun K2 hK2=>?_);simp only [simprocAttr,implies_true,amz,abin,tys];(repeat' with_reducible (first|(refine hK2 _ ?_;clear hK2 K2)|refine And.intro ?_ ?_|intro hb))))))|refine T.skip ?_|refine T.exit ?_|refine T.zf rfl ?_|refine T.ze rfl ?_|refine T.cond rfl (fun hc=>?_) (fun hc=>?_)|refine T.ret ?_|simp only [za,z8,reduceIte,Nat.reduceEqDiff]|((repeat ((fail_if_success (refine hK _ ?_));clear hK K));refine hK _ ?_;clear hK K))
     refine hKL2 _ (k+1) ?_ (by omega) (by omega)
     rw [hnext,hp,if_neg (by simp),List.append_nil]
     refine zk.of' rfl ?_;simp only [wks,reduceIte,Nat.reduceEqDiff,ASt.okB,AV.okB,Nat.reduceLT,implies_true,zm (show k<1152921504606846976 by omega)]
    | true =>
     rw [hcl] at hcf
     cases hv2:hbM l k j with
     | true =>
      rw [hv2] at m2
      have hp:racR l k j=false:=by simp [racR,hv2]
      repeat' (first|refine T.zh fun K hK=>?_|refine T.block ?_|(refine T.reg (by kernel_rfl) fun K' hK'=>?_;simp only [bz];(repeat' (first|(with_reducible refine WL.fin ?_;refine hK' _ ?_;clear hK' K')|((with_reducible refine WL.step fun K2 hK2=>?_);simp only [simprocAttr,implies_true,amz,abin,tys,hd2];(repeat' with_reducible (first|(refine hK2 _ ?_;clear hK2 K2)|refine And.intro ?_ ?_|intro hb))))))|refine T.skip ?_|refine T.exit ?_|refine T.zf rfl ?_|refine T.ze rfl ?_|refine T.cond rfl (fun hc=>?_) (fun hc=>?_)|refine T.ret ?_|simp only [za,z8,reduceIte,Nat.reduceEqDiff]|((repeat ((fail_if_success (refine hK _ ?_));clear hK K));refine hK _ ?_;clear hK K))
      refine T.drw 15 (by kernel_rfl) (by kernel_rfl) fun K' hK'=>?_;simp only [List.map_cons,List.map_nil];(repeat' (first|(with_reducible refine WL.fin ?_;refine hK' _ ?_;clear hK' K')|(with_reducible refine WD.fin ?_)|((with_reducible first|refine WL.step fun K2 hK2=>?_|refine WD.step fun K2 hK2=>?_);simp only [simprocAttr,implies_true,amz,abin,tys,hx,hy,evC,m1,m2,bvC];(repeat' (first|with_reducible (first|(refine hK2 _ ?_;clear hK2 K2)|refine And.intro ?_ ?_|intro hb)|((first|(with_reducible apply zg)|(with_reducible apply zl));case h=>exact CallV.plain (Ent.of Try.func29 (by kernel_rfl) rfl) (hcf) (by simp [AV.okB])))))));all_goals ((try simp only [za,z8,reduceIte,Nat.reduceEqDiff]);(try ((repeat ((fail_if_success (refine hK _ ?_));clear hK K));refine hK _ ?_;clear hK K)))
      all_goals repeat' (first|refine T.zh fun K hK=>?_|refine T.block ?_|(refine T.reg (by kernel_rfl) fun K' hK'=>?_;simp only [bz];(repeat' (first|(with_reducible refine WL.fin ?_;refine hK' _ ?_;clear hK' K')|((with_reducible refine WL.step fun K2 hK2=>?_);simp only [simprocAttr,implies_true,amz,abin,tys];(repeat' with_reducible (first|(refine hK2 _ ?_;clear hK2 K2)|refine And.intro ?_ ?_|intro hb))))))|refine T.skip ?_|refine T.exit ?_|refine T.zf rfl ?_|refine T.ze rfl ?_|refine T.cond rfl (fun hc=>?_) (fun hc=>?_)|refine T.ret ?_|simp only [za,z8,reduceIte,Nat.reduceEqDiff]|((repeat ((fail_if_success (refine hK _ ?_));clear hK K));refine hK _ ?_;clear hK K))
      refine hKL2 _ (k+1) ?_ (by omega) (by omega)
      rw [hnext,hp,if_neg (by simp),List.append_nil]
      refine zk.of' rfl ?_;simp only [wks,reduceIte,Nat.reduceEqDiff,ASt.okB,AV.okB,Nat.reduceLT,implies_true,zm (show k<1152921504606846976 by omega)]
     | false =>
      rw [hv2] at m2
      have hp:racR l k j=true:=by simp [racR,hv2,hcl]
      repeat' (first|refine T.zh fun K hK=>?_|refine T.block ?_|(refine T.reg (by kernel_rfl) fun K' hK'=>?_;simp only [bz];(repeat' (first|(with_reducible refine WL.fin ?_;refine hK' _ ?_;clear hK' K')|((with_reducible refine WL.step fun K2 hK2=>?_);simp only [simprocAttr,implies_true,amz,abin,tys,hd2];(repeat' with_reducible (first|(refine hK2 _ ?_;clear hK2 K2)|refine And.intro ?_ ?_|intro hb))))))|refine T.skip ?_|refine T.exit ?_|refine T.zf rfl ?_|refine T.ze rfl ?_|refine T.cond rfl (fun hc=>?_) (fun hc=>?_)|refine T.ret ?_|simp only [za,z8,reduceIte,Nat.reduceEqDiff]|((repeat ((fail_if_success (refine hK _ ?_));clear hK K));refine hK _ ?_;clear hK K))
      refine T.drw 15 (by kernel_rfl) (by kernel_rfl) fun K' hK'=>?_;simp only [List.map_cons,List.map_nil];(repeat' (first|(with_reducible refine WL.fin ?_;refine hK' _ ?_;clear hK' K')|(with_reducible refine WD.fin ?_)|((with_reducible first|refine WL.step fun K2 hK2=>?_|refine WD.step fun K2 hK2=>?_);simp only [simprocAttr,implies_true,amz,abin,tys,hx,hy,evC,m1,m2,bvC];(repeat' (first|with_reducible (first|(refine hK2 _ ?_;clear hK2 K2)|refine And.intro ?_ ?_|intro hb)|((first|(with_reducible apply zg)|(with_reducible apply zl));case h=>exact CallV.plain (Ent.of Try.func29 (by kernel_rfl) rfl) (hcf) (by simp [AV.okB])))))));all_goals ((try simp only [za,z8,reduceIte,Nat.reduceEqDiff]);(try ((repeat ((fail_if_success (refine hK _ ?_));clear hK K));refine hK _ ?_;clear hK K)))
      all_goals repeat' (first|refine T.zh fun K hK=>?_|refine T.block ?_|(refine T.reg (by kernel_rfl) fun K' hK'=>?_;simp only [bz];(repeat' (first|(with_reducible refine WL.fin ?_;refine hK' _ ?_;clear hK' K')|((with_reducible refine WL.step fun K2 hK2=>?_);simp only [simprocAttr,implies_true,amz,abin,tys,hm0,hm1,hm2,z9T];(repeat' with_reducible (first|(refine hK2 _ ?_;clear hK2 K2)|refine And.intro ?_ ?_|intro hb))))))|refine T.skip ?_|refine T.exit ?_|refine T.zf rfl ?_|refine T.ze rfl ?_|refine T.cond rfl (fun hc=>?_) (fun hc=>?_)|refine T.ret ?_|simp only [za,z8,reduceIte,Nat.reduceEqDiff]|((repeat ((fail_if_success (refine hK _ ?_));clear hK K));refine hK _ ?_;clear hK K))
      refine hKL2 _ (k+1) ?_ (by omega) (by omega)
      rw [hnext,hp,if_pos rfl,← hsn]
      refine zk.of' rfl ?_;simp only [wks,reduceIte,Nat.reduceEqDiff,ASt.okB,AV.okB,Nat.reduceLT,implies_true,zm (show k<1152921504606846976 by omega)]
   ·have hd2:decide ((k:Int)<(j:Int))=false:=by simpa using hkj
    have hke:k=j:=by omega
    subst hke
    repeat' (first|refine T.zh fun K hK=>?_|refine T.block ?_|(refine T.reg (by kernel_rfl) fun K' hK'=>?_;simp only [bz];(repeat' (first|(with_reducible refine WL.fin ?_;refine hK' _ ?_;clear hK' K')|((with_reducible refine WL.step fun K2 hK2=>?_);simp only [simprocAttr,implies_true,amz,abin,tys,hd2];(repeat' with_reducible (first|(refine hK2 _ ?_;clear hK2 K2)|refine And.intro ?_ ?_|intro hb))))))|refine T.skip ?_|refine T.exit ?_|refine T.zf rfl ?_|refine T.ze rfl ?_|refine T.cond rfl (fun hc=>?_) (fun hc=>?_)|refine T.ret ?_|simp only [za,z8,reduceIte,Nat.reduceEqDiff]|((repeat ((fail_if_success (refine hK _ ?_));clear hK K));refine hK _ ?_;clear hK K))
    refine hKL _ (k+1) ?_ (by omega) (by omega)
    rw [prU]
    refine zk.of' rfl ?_;simp only [wks,reduceIte,Nat.reduceEqDiff,ASt.okB,AV.okB,Nat.reduceLT,implies_true,zm (show k<1152921504606846976 by omega)]
  ·have hd:decide ((j:Int)<(n:Int))=false:=by simpa using hjn
   have hje:n=j:=by omega
   subst hje
   repeat' (first|refine T.zh fun K hK=>?_|refine T.block ?_|(refine T.reg (by kernel_rfl) fun K' hK'=>?_;simp only [bz];(repeat' (first|(with_reducible refine WL.fin ?_;refine hK' _ ?_;clear hK' K')|((with_reducible refine WL.step fun K2 hK2=>?_);simp only [simprocAttr,implies_true,amz,abin,tys,hd,← hn];(repeat' with_reducible (first|(refine hK2 _ ?_;clear hK2 K2)|refine And.intro ?_ ?_|intro hb))))))|refine T.skip ?_|refine T.exit ?_|refine T.zf rfl ?_|refine T.ze rfl ?_|refine T.cond rfl (fun hc=>?_) (fun hc=>?_)|refine T.ret ?_|simp only [za,z8,reduceIte,Nat.reduceEqDiff]|((repeat ((fail_if_success (refine hK _ ?_));clear hK K));refine hK _ ?_;clear hK K))
   refine zy.retW (.inr rfl) Try.results16 (zk.frz _ 0) ?_;simp only [zu,zo,zn,ASt.frz,ASt.subst,AO.z3a,AO.z4m,AO.z5a,AO.z5l,AO.z2K,AV.z8l,AV.z5b,AV.z4f,AV.z3G,AV.z3w,AV.z2Q,AV.z3O,AV.z3n,AV.z5r,AV.z2J,List.filter_cons,List.filter_nil,bne_self_eq_false,Nat.reduceBneDiff,Nat.reduceEqDiff,Bool.false_eq_true,simprocAttr,implies_true,amz,abin,tys]
end Go.Proofs.Ytdlgoofjechocaa
namespace Go.Proofs.Ytdlgoofjechocaa
open Go.RowKit Go.Sort
theorem z2B {l:List Ev} (hl:l.length≤99999) (i j:Int):(expE l i j).length≤100000:=by
 unfold expE
 by_cases hp:plcB l i j=true
 ·rw [if_pos hp]
  have hpp:=z01.1 hp
  have h1:=hpp.2.1
  have h2:=hpp.2.2.1
  have h3:=hpp.2.2.2
  by_cases hv : 0<zO l j.toNat i.toNat
  ·rw [if_pos hv,z3z hv]
   have:=z2F (l:=l) (j:=j.toNat) (d:=j.toNat-i.toNat) (k:=i.toNat) (Nat.le_refl _) (by omega)
   omega
  ·rw [if_neg hv]
   unfold z1z
   split
   ·have h1:=z3d (hbB l j.toNat) j.toNat
    simp only [List.length_append,List.length_singleton]
    omega
   ·simp
 ·rw [if_neg hp];simp
theorem z3b {l:List Ev} {i j:Int} (h:plcB l i j=true):expX l i j=0:=by unfold expX;rw [if_pos h]
theorem rsnN_A (o:Bool) (r:List Nat):rsnN o r=rsnA o (zs r):=by unfold rsnN rsnA;rw [rowI_Z]
theorem prU_in {p:Nat→Nat→Bool} : ∀ {n:Nat} {x:Nat × Nat},x ∈ prU p (fun j=>j) n→x.1<x.2∧x.2<n∧p x.1 x.2=true
 | 0,x,h=>by simp [prU] at h
 | n+1,x,h=>by
  rw [prU,List.mem_append] at h
  rcases h with h|h
  ·obtain ⟨h1,h2,h3⟩:=prU_in h
   exact ⟨h1,by omega,h3⟩
  ·unfold prJ rgF at h
   simp only [List.mem_map,List.mem_filter,List.mem_range] at h
   obtain ⟨i,⟨h1,h2⟩,rfl⟩:=h
   exact ⟨h1,Nat.lt_succ_self _,h2⟩
theorem race_plc {l:List Ev} (hv:(qx l).2=true) {x:Nat × Nat} (hx:x ∈ z4t l):plcB l x.1 x.2=true∧expO l x.1 x.2=false:=by
 unfold z4t at hx
 rw [hv,if_pos rfl] at hx
 obtain ⟨h1,h2,h3⟩:=prU_in hx
 have hp:plcB l x.1 x.2=true:=z01.2 ⟨hv,by omega,by omega,by omega⟩
 refine ⟨hp,?_⟩
 unfold racR hbM at h3
 simp only [Bool.and_eq_true,Bool.not_eq_true'] at h3
 unfold expO
 rw [hp,Bool.true_and,decide_eq_false_iff_not,z5S,Int.toNat_natCast,Int.toNat_natCast]
 rintro (h|h)
 ·omega
 ·rw [h3.2] at h;cases h
theorem z8P (l:List Ev):zq Try.prog 5 [.p (.seq 9 (l.map evC))] (.bool true):=by
 have hw:=z4P
 have hlm:(l.map evC).length=l.length:=by simp
 by_cases hn:l.length≤40
 ·have hg:decide ((40:Int)<(l.length:Int))=false:=by simp;omega
  have hv:=z1u l (by omega)
  cases hvb:(qx l).2 with
  | false =>
   rw [hvb] at hv
   refine zq.of Try.func5 rfl 53 rfl (by decide) (by simp [AV.okB]) ?_
   repeat' (first|refine T.zh fun K hK=>?_|refine T.block ?_|(refine T.reg (by kernel_rfl) fun K' hK'=>?_;simp only [bz];(repeat' (first|(with_reducible refine WL.fin ?_;refine hK' _ ?_;clear hK' K')|((with_reducible refine WL.step fun K2 hK2=>?_);simp only [simprocAttr,implies_true,amz,tys,hlm,hg,Bool.not_true,Bool.not_false];(repeat' (first|with_reducible (first|(refine hK2 _ ?_;clear hK2 K2)|refine And.intro ?_ ?_|intro hb)|((first|(with_reducible apply zg)|(with_reducible apply zl));case h=>exact CallV.plain (Ent.of Try.func9 (by kernel_rfl) rfl) (hw) (by simp [AV.okB]))|((first|(with_reducible apply zg)|(with_reducible apply zl));case h=>exact CallV.plain (Ent.of Try.func13 (by kernel_rfl) rfl) (hv) (by simp [AV.okB]))))))))|refine T.skip ?_|refine T.exit ?_|refine T.zf rfl ?_|refine T.ze rfl ?_|refine T.cond rfl (fun hc=>?_) (fun hc=>?_)|refine T.ret ?_|simp only [za,z8,reduceIte,Nat.reduceEqDiff]|((repeat ((fail_if_success (refine hK _ ?_));clear hK K));refine hK _ ?_;clear hK K))
   all_goals (refine zy.ret (.inr rfl) Try.results5 ?_;simp only [zu,zo,zn,simprocAttr,implies_true,amz,tys,])
  | true =>
   rw [hvb] at hv
   have hr:=racesR_ok l (by omega)
   have hin:=fun x (hx:x ∈ z4t l)=>race_plc hvb hx
   generalize z4t l=R at hr hin
   have hRl:=z9T R
   refine zq.of Try.func5 rfl 53 rfl (by decide) (by simp [AV.okB]) ?_
   repeat' (first|refine T.zh fun K hK=>?_|refine T.block ?_|(refine T.reg (by kernel_rfl) fun K' hK'=>?_;simp only [bz];(repeat' (first|(with_reducible refine WL.fin ?_;refine hK' _ ?_;clear hK' K')|((with_reducible refine WL.step fun K2 hK2=>?_);simp only [simprocAttr,implies_true,amz,tys,hlm,hg,hRl,Bool.not_true,Bool.not_false];(repeat' (first|with_reducible (first|(refine hK2 _ ?_;clear hK2 K2)|refine And.intro ?_ ?_|intro hb)|((first|(with_reducible apply zg)|(with_reducible apply zl));case h=>exact CallV.plain (Ent.of Try.func9 (by kernel_rfl) rfl) (hw) (by simp [AV.okB]))|((first|(with_reducible apply zg)|(with_reducible apply zl));case h=>exact CallV.plain (Ent.of Try.func13 (by kernel_rfl) rfl) (hv) (by simp [AV.okB]))|((first|(with_reducible apply zg)|(with_reducible apply zl));case h=>exact CallV.plain (Ent.of Try.func16 (by kernel_rfl) rfl) (hr) (by simp [AV.okB]))))))))|refine T.skip ?_|refine T.exit ?_|refine T.zf rfl ?_|refine T.ze rfl ?_|refine T.cond rfl (fun hc=>?_) (fun hc=>?_)|refine T.ret ?_|simp only [za,z8,reduceIte,Nat.reduceEqDiff]|((repeat ((fail_if_success (refine hK _ ?_));clear hK K));refine hK _ ?_;clear hK K))
   clear hr
   refine T.qc (fun k:Nat=>⟨[(0,.p (.seq 9 (l.map evC))),(18,.p (.seq 2 (rowQ R))),(19,.int R.length),(20,.int k)],[],53,0⟩) (fun k=>k≤R.length∧k≤8) (fun k=>R.length-k) 0 ⟨Nat.zero_le _,by omega⟩ (by refine zk.of' rfl ?_;simp only [wks,reduceIte,Nat.reduceEqDiff,ASt.okB,AV.okB,Nat.reduceLT,implies_true,Int.natCast_zero]) ?_
   rintro k ⟨hk,hk8⟩ KL hKL
   by_cases hkn:k<R.length
   ·have hd:decide ((k:Int)<(R.length:Int))=true:=by simpa using hkn
    have hk0:(0:Int)≤(k:Int):=by omega
    obtain ⟨⟨a,b⟩,hx⟩:=zT hkn
    have m1:(rowQ R)[k]? = some [.val (.int .i64 (a:Int)),.val (.int .i64 (b:Int))]:=by
     unfold rowQ;rw [List.getElem?_map,hx];rfl
    obtain ⟨hp,hno⟩:=hin _ (List.mem_of_getElem? hx)
    simp only at hp hno
    by_cases hk9:k=8
    ·have hd2:((k:Int)==8)=true:=by rw [hk9];rfl
     repeat' (first|refine T.zh fun K hK=>?_|refine T.block ?_|(refine T.reg (by kernel_rfl) fun K' hK'=>?_;simp only [bz];(repeat' (first|(with_reducible refine WL.fin ?_;refine hK' _ ?_;clear hK' K')|((with_reducible refine WL.step fun K2 hK2=>?_);simp only [simprocAttr,implies_true,amz,tys,hd,hk0,Int.toNat_natCast,m1,hd2];(repeat' with_reducible (first|(refine hK2 _ ?_;clear hK2 K2)|refine And.intro ?_ ?_|intro hb))))))|refine T.skip ?_|refine T.exit ?_|refine T.zf rfl ?_|refine T.ze rfl ?_|refine T.cond rfl (fun hc=>?_) (fun hc=>?_)|refine T.ret ?_|simp only [za,z8,reduceIte,Nat.reduceEqDiff]|((repeat ((fail_if_success (refine hK _ ?_));clear hK K));refine hK _ ?_;clear hK K))
     all_goals (refine zy.ret (.inr rfl) Try.results5 ?_;simp only [zu,zo,zn,simprocAttr,implies_true,amz,tys,])
    ·have hd2:((k:Int)==8)=false:=by rw [beq_eq_false_iff_ne];omega
     have h1:=z1C l a b (by omega)
     have h3:=z7J l a b (expO l a b) (zs (expE l a b)) (by omega) (by have h5:=z2B (l:=l) (by omega) a b;simp only [zs,List.length_map];omega)
     rw [z1x (z3A hp)] at h3
     rw [z3b hp,rsnN_A] at h1
     rw [hno] at h1 h3
     simp only [rsnA] at h1 h3
     generalize zs (expE l a b)=r at h1 h3
     repeat' (first|refine T.zh fun K hK=>?_|refine T.block ?_|(refine T.reg (by kernel_rfl) fun K' hK'=>?_;simp only [bz];(repeat' (first|(with_reducible refine WL.fin ?_;refine hK' _ ?_;clear hK' K')|((with_reducible refine WL.step fun K2 hK2=>?_);simp only [simprocAttr,implies_true,amz,tys,hd,hk0,Int.toNat_natCast,m1,hd2,bne_self_eq_false,Bool.not_true,Bool.not_false];(repeat' (first|with_reducible (first|(refine hK2 _ ?_;clear hK2 K2)|refine And.intro ?_ ?_|intro hb)|((first|(with_reducible apply zg)|(with_reducible apply zl));case h=>exact CallV.plain (Ent.of Try.func10 (by kernel_rfl) rfl) (h1) (by simp [AV.okB]))|((first|(with_reducible apply zg)|(with_reducible apply zl));case h=>exact CallV.plain (Ent.of Try.func15 (by kernel_rfl) rfl) (h3) (by simp [AV.okB]))))))))|refine T.skip ?_|refine T.exit ?_|refine T.zf rfl ?_|refine T.ze rfl ?_|refine T.cond rfl (fun hc=>?_) (fun hc=>?_)|refine T.ret ?_|simp only [za,z8,reduceIte,Nat.reduceEqDiff]|((repeat ((fail_if_success (refine hK _ ?_));clear hK K));refine hK _ ?_;clear hK K))
     refine hKL _ (k+1) ?_ ⟨hkn,by omega⟩ (by omega)
     refine zk.of' rfl ?_;simp only [wks,reduceIte,Nat.reduceEqDiff,ASt.okB,AV.okB,Nat.reduceLT,implies_true,zm (show k<1152921504606846976 by omega)]
   ·have hd:decide ((k:Int)<(R.length:Int))=false:=by simpa using hkn
    repeat' (first|refine T.zh fun K hK=>?_|refine T.block ?_|(refine T.reg (by kernel_rfl) fun K' hK'=>?_;simp only [bz];(repeat' (first|(with_reducible refine WL.fin ?_;refine hK' _ ?_;clear hK' K')|((with_reducible refine WL.step fun K2 hK2=>?_);simp only [simprocAttr,implies_true,amz,tys,hd];(repeat' with_reducible (first|(refine hK2 _ ?_;clear hK2 K2)|refine And.intro ?_ ?_|intro hb))))))|refine T.skip ?_|refine T.exit ?_|refine T.zf rfl ?_|refine T.ze rfl ?_|refine T.cond rfl (fun hc=>?_) (fun hc=>?_)|refine T.ret ?_|simp only [za,z8,reduceIte,Nat.reduceEqDiff]|((repeat ((fail_if_success (refine hK _ ?_));clear hK K));refine hK _ ?_;clear hK K))
    all_goals (refine zy.ret (.inr rfl) Try.results5 ?_;simp only [zu,zo,zn,simprocAttr,implies_true,amz,tys,])
 ·have hg:decide ((40:Int)<(l.length:Int))=true:=by simp;omega
  refine zq.of Try.func5 rfl 53 rfl (by decide) (by simp [AV.okB]) ?_
  repeat' (first|refine T.zh fun K hK=>?_|refine T.block ?_|(refine T.reg (by kernel_rfl) fun K' hK'=>?_;simp only [bz];(repeat' (first|(with_reducible refine WL.fin ?_;refine hK' _ ?_;clear hK' K')|((with_reducible refine WL.step fun K2 hK2=>?_);simp only [simprocAttr,implies_true,amz,tys,hlm,hg,Bool.not_true];(repeat' (first|with_reducible (first|(refine hK2 _ ?_;clear hK2 K2)|refine And.intro ?_ ?_|intro hb)|((first|(with_reducible apply zg)|(with_reducible apply zl));case h=>exact CallV.plain (Ent.of Try.func9 (by kernel_rfl) rfl) (hw) (by simp [AV.okB]))))))))|refine T.skip ?_|refine T.exit ?_|refine T.zf rfl ?_|refine T.ze rfl ?_|refine T.cond rfl (fun hc=>?_) (fun hc=>?_)|refine T.ret ?_|simp only [za,z8,reduceIte,Nat.reduceEqDiff]|((repeat ((fail_if_success (refine hK _ ?_));clear hK K));refine hK _ ?_;clear hK K))
  all_goals (refine zy.ret (.inr rfl) Try.results5 ?_;simp only [zu,zo,zn,simprocAttr,implies_true,amz,tys,])
end Go.Proofs.Ytdlgoofjechocaa
