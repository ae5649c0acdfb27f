/- Texts Of, Og, Oe, Oh. -/
import Derived.Test.YtbkkginjfnjffaaDoorZ11
set_option maxHeartbeats 32000000
set_option maxRecDepth 100000
set_option linter.unusedSimpArgs false
set_option linter.unusedVariables false
namespace Go.Proofs.YtbkkginjfnjffaaDoor
open Go.RowKit Go.Sort Go.Maps
structure Tx where
 q:Nat
 pb:Nat
 db:Nat
 lb:Nat
 cb:Nat
 fs:List Fu
 g:PV
 y:PV
 mn:Int
 st:List Int
 sz:Int
def hpT (t:Tx) (bs:List UInt8):Hp := [(0,.boxP (some t.q) 95 [.ptr 0 0,.own 1]),(1,.row 5 1 (z0v bs)),(2,.boxP (some t.pb) 46 [.p (.seq 4 (t.fs.map fuC)),.p t.g,.p t.y,.int t.mn]),(3,.boxP (some t.db) 96 [.fn (.func 35) []]),(4,.boxP (some t.lb) 48 [.p (.seq 1 (rowZ t.st)),.int t.sz]),(1000000,.boxP (some 0) 159 (z08 z3q))]
theorem renC (a b:Nat) (l:List Value):(z08 l).map (AV.ren a b)=z08 l:=by
 simp [z08,AV.zW]
def hpT5 (t:Tx) (l:List P2) (bs:List UInt8):Hp:=(5,.boxP (some t.cb) 23 [.p (.seq 2 (rowP l))]) :: hpT t bs
def hpTY (lr:Nat) (sp:LSpec) (t:Tx) (l:List P2) (bs:List UInt8):Hp:=(1999999,.lrec lr sp [(2,.ptr 0 0),(3,.ptr 2 0),(4,.ptr 3 0),(5,.ptr 4 0)]) :: hpT5 t l bs
theorem z03 (t:Tx) (l:List P2) (bs:List UInt8) (n:Nat) (hn : 1000001≤n):HpOk n (hpT5 t l bs) :=
 ⟨fun p hp=>by
  simp only [hpT5,hpT,List.mem_cons,List.not_mem_nil,or_false] at hp
  rcases hp with rfl|rfl|rfl|rfl|rfl|rfl|rfl
  ·exact ⟨by simp only [];omega,by simp [AO.zH,AV.okB]⟩
  ·exact ⟨by simp only [];omega,by simp [AO.zH,AV.okB];omega⟩
  ·exact ⟨by simp only [];omega,rfl⟩
  ·exact ⟨by simp only [];omega,by simp [AO.zH,AV.okB]⟩
  ·exact ⟨by simp only [];omega,by simp [AO.zH,AV.okB,AV.qp]⟩
  ·exact ⟨by simp only [];omega,by simp [AO.zH,AV.okB]⟩
  ·exact ⟨by simp only [];omega,zo _ _⟩,fun p hp=>by
  simp only [hpT5,hpT,List.mem_cons,List.not_mem_nil,or_false] at hp
  rcases hp with rfl|rfl|rfl|rfl|rfl|rfl|rfl <;> rfl⟩
theorem z4k (lr:Nat) (sp:LSpec) (t:Tx) (l:List P2) (bs:List UInt8):HpOk 2000000 (hpTY lr sp t l bs) :=
 (z03 t l bs 2000000 (by omega)).cons (by omega) (by simp [AO.z0c,AV.okB]) ((z03 t l bs 1999999 (by omega)).none (Nat.le_refl _))
theorem z5Z.ofK {P:Program} {fr:List (Nat × AV)} {n N y:Nat} {xs:List AV} {d:Option Nat} {K:ASt→Prop} (m:Nat) (ks:List Nat) (H H' : Hp) (l:Nat) (sp:LSpec) (fr0:List (Nat × AV)) (hH:HpOk m H) (hyc:YldC P l m H xs fun hp' r=>hp' = H' ∧ r = .bool true)
  (hlk:H.lookup y=some (.lrec l sp fr0)) (hk : ∀ t ∈ ks,Kept H H' t) (hN:m≤N) (hxs:(xs.all (·.okB m))=true) (hK:K (ASt.put ⟨fr.map fun p=>(p.1,p.2.keep m ks),H',n,N⟩ d (.bool true))):z5Z P ⟨fr,H,n,N⟩ y xs d K:=by
 refine ⟨m,H,_,ks,l,sp,fr0,hyc,hlk,⟨hN,fun p hp=>?_,fun p hp hlt=>?_⟩,hxs,?_⟩
 ·obtain ⟨h1,h2⟩:=hH.ok p hp
  exact ⟨hH.one p hp,h1,h2⟩
 ·rw [hH.one p hp];rfl
 ·rintro hp' r ⟨rfl,rfl⟩
  refine ⟨fun t ht _=>hk t ht,?_⟩
  have e:ASt.qh ⟨fr,H,n,N⟩ m ks hp' = ⟨fr.map fun p=>(p.1,p.2.keep m ks),hp',n,N⟩:=by
   unfold ASt.qh
   simp only [hH.le,List.map_nil,List.append_nil]
  rw [e]
  exact hK
def bsQ (t:Tx) (l:List P2) (b0:List UInt8) (q:Nat):List UInt8:=(putN t.fs t.st t.sz (l.drop q).reverse ⟨b0.toArray⟩).data.toList
theorem bsQ_step {t:Tx} {l:List P2} {b0:List UInt8} {p:Nat} {s:P2} (h:l[p]? = some s):bsQ t l b0 p=bsQ t l b0 (p+1)++(entN t.fs t.st t.sz s).data.toList:=by
 unfold bsQ
 rw [z3S h,z5F]
 exact z0G _ _
theorem bsQ_end (t:Tx) (l:List P2) (b0:List UInt8):bsQ t l b0 l.length=b0:=by
 simp [bsQ,putN]
theorem bsQ_len {t:Tx} (h:NmOk t.fs) (hl:t.st.length≤1000000) (l:List P2) (b0:List UInt8) (q:Nat) (hll:l.length≤1000):(bsQ t l b0 q).length≤b0.length+1048700000:=by
 have h1:=z4Y h t.st t.sz hl (l.drop q).reverse ⟨b0.toArray⟩
 have e1:(bsQ t l b0 q).length=(putN t.fs t.st t.sz (l.drop q).reverse ⟨b0.toArray⟩).size:=by rw [bsQ,Array.length_toList];rfl
 have e2:(⟨b0.toArray⟩ : ByteArray).size=b0.length:=by simp [ByteArray.size]
 rw [List.length_reverse,List.length_drop] at h1
 have:(l.length-q)*1048700≤1000*1048700:=Nat.mul_le_mul_right _ (by omega)
 omega
theorem z5k (lr:Nat) (sp:LSpec) (t:Tx) (l:List P2) (b0:List UInt8) (hn:NmOk t.fs) (hl:t.st.length≤1000000) (hll:l.length≤1000) (hb:b0.length≤2000000000)
  (hyld : ∀ bs (p:Nat) s,l[p]? = some s→bs.length≤4000000000→YldC Tryd.prog lr 2000000 (hpTY lr sp t l bs) [.int p,.agg [.int s.1,.int s.2]] fun hp' r=>hp' = hpTY lr sp t l (bs++(entN t.fs t.st t.sz s).data.toList)∧r = .bool true) :
  MemC Tryd.prog 59 2000000 (hpTY lr sp t l b0) [.own 1999999,.ptr 5 0] fun hp' r=>hp' = hpTY lr sp t l (bsQ t l b0 0)∧r = .tup []:=by
 have hrl:=qO l
 have w0:IntKind.i64.wrap ((l.length:Int)-1)=(l.length:Int)-1:=z04 (by omega) (by omega)
 simp only [hpTY,hpT5,hpT]
 refine MemC.of Tryd.func59 rfl 19 rfl (by decide) ?_;simp only [qK,frOf]
 repeat' (first|refine T.zk fun K hK=>?_|apply T.block|(refine T.reg (by kernel_rfl) fun K' hK'=>?_;simp only [bz];(with_reducible repeat' (first|(apply WL.fin;apply hK';clear hK' K')|(refine WL.step fun K2 hK2=>?_;simp only [simprocAttr,implies_true,amz,zb,tys,hrl,w0];repeat' (first|(apply hK2;clear hK2 K2)|apply And.intro|intro hb)))))|apply T.skip|apply T.exit|refine T.zf rfl ?_|refine T.ze rfl ?_|refine T.cond rfl (fun hc=>?_) (fun hc=>?_)|apply T.ret|simp only [za,z8,reduceIte,Nat.reduceEqDiff]|((repeat ((fail_if_success apply hK);clear hK K));apply hK;clear hK K))
 refine T.z0o (fun q:Nat=>⟨[(0,.own 1999999),(1,.ptr 5 0),(3,.int ((q:Int)-1))],hpTY lr sp t l (bsQ t l b0 q),19,2000000⟩) (fun q=>q≤l.length) (fun q=>q) l.length (Nat.le_refl _) (by refine zi.of' rfl ?_;simp only [wks,reduceIte,Nat.reduceEqDiff,ASt.okB,AV.okB,Nat.reduceLT,implies_true,bsQ_end,hpTY,hpT5,hpT,AO.z0c,zo]) ?_
 intro q hq KL hKL
 by_cases hq0:q=0
 ·subst hq0
  have hd:decide (0≤((0:Nat):Int)-1)=false:=by simp
  simp only [hpTY,hpT5,hpT]
  repeat' (first|refine T.zk fun K hK=>?_|apply T.block|(refine T.reg (by kernel_rfl) fun K' hK'=>?_;simp only [bz];(with_reducible repeat' (first|(apply WL.fin;apply hK';clear hK' K')|(refine WL.step fun K2 hK2=>?_;simp only [simprocAttr,implies_true,amz,zb,tys,hd];repeat' (first|(apply hK2;clear hK2 K2)|apply And.intro|intro hb)))))|apply T.skip|apply T.exit|refine T.zf rfl ?_|refine T.ze rfl ?_|refine T.cond rfl (fun hc=>?_) (fun hc=>?_)|apply T.ret|simp only [za,z8,reduceIte,Nat.reduceEqDiff]|((repeat ((fail_if_success apply hK);clear hK K));apply hK;clear hK K))
  refine FinM.ret (s':=⟨[],hpTY lr sp t l (bsQ t l b0 0),19,2000000⟩) (r := .tup []) (.inl rfl) Tryd.results59 (by refine zi.of' rfl ?_;simp only [wks,reduceIte,Nat.reduceEqDiff,ASt.okB,AV.okB,Nat.reduceLT,implies_true,hpTY,hpT5,hpT,AO.z0c,zo]) rfl (by simp only [zR,zA]) ⟨rfl,rfl⟩
 obtain ⟨p,rfl⟩ : ∃ p,q=p+1:=⟨q-1,by omega⟩
 obtain ⟨s,hs⟩:=z01 (l:=l) (k:=p) (by omega)
 have hqp:(((p+1:Nat):Int)-1)=(p:Int):=by omega
 have hd:decide (0≤(p:Int))=true:=by simp
 have hp0:(0≤(p:Int))=True:=eq_true (by omega)
 have w1:IntKind.i64.wrap ((p:Int)-1)=(p:Int)-1:=z04 (by omega) (by omega)
 have m1:=z0e hs
 have hlen:=bsQ_len hn hl l b0 (p+1) hll
 have hyl:=hyld (bsQ t l b0 (p+1)) p s hs (by omega)
 rw [← bsQ_step hs] at hyl
 obtain ⟨b1,hb1⟩ : ∃ b1,b1=bsQ t l b0 (p+1):=⟨_,rfl⟩
 obtain ⟨b2,hb2⟩ : ∃ b2,b2=bsQ t l b0 p:=⟨_,rfl⟩
 rw [← hb1,← hb2] at hyl
 have hH:=z4k lr sp t l b1
 have hH2:=z4k lr sp t l b2
 rw [hqp,← hb1]
 simp only [hpTY,hpT5,hpT]
 repeat' (first|refine T.zk fun K hK=>?_|apply T.block|apply T.skip|apply T.exit|refine T.zf rfl ?_|refine T.ze rfl ?_|refine T.cond rfl (fun hc=>?_) (fun hc=>?_)|apply T.ret|simp only [za,z8,reduceIte,Nat.reduceEqDiff]|((repeat ((fail_if_success apply hK);clear hK K));apply hK;clear hK K))
 (refine T.reg (by kernel_rfl) fun K' hK'=>?_;simp only [bz];(with_reducible repeat' (first|(apply WL.fin;apply hK';clear hK' K')|(refine WL.step fun K2 hK2=>?_;simp only [simprocAttr,implies_true,amz,zb,tys,hd];repeat' (first|(apply hK2;clear hK2 K2)|apply And.intro|intro hb))));all_goals ((try simp only [za,z8,reduceIte,Nat.reduceEqDiff]);(try ((repeat ((fail_if_success apply hK);clear hK K));apply hK;clear hK K))))
 repeat' (first|refine T.zk fun K hK=>?_|apply T.block|apply T.skip|apply T.exit|refine T.zf rfl ?_|refine T.ze rfl ?_|refine T.cond rfl (fun hc=>?_) (fun hc=>?_)|apply T.ret|simp only [za,z8,reduceIte,Nat.reduceEqDiff]|((repeat ((fail_if_success apply hK);clear hK K));apply hK;clear hK K))
 refine T.weak (s':=⟨[(0,.own 1999999),(1,.ptr 5 0),(3,.int p)],hpTY lr sp t l b1,19,2000000⟩) (by refine zi.of' rfl ?_;simp only [wks,reduceIte,Nat.reduceEqDiff,ASt.okB,AV.okB,Nat.reduceLT,implies_true,hpTY,hpT5,hpT,AO.z0c,zo]) ?_
 refine T.regI (by kernel_rfl) fun K' hK'=>?_;simp only [List.map_cons,List.map_nil]
 simp only [hpTY,hpT5,hpT]
 iterate 6 ((with_reducible refine WLI.stepP fun K2 hK2=>?_);simp only [simprocAttr,implies_true,amz,zb,tys,hrl,hp0,Int.toNat_natCast,m1];(repeat' (first|with_reducible (first|(apply hK2;clear hK2 K2)|apply And.intro|intro hb))))
 (with_reducible refine WLI.stepY fun K2 hK2=>?_);simp only [WSY,WY,simprocAttr,implies_true,amz,zb,tys]
 refine z5Z.ofK 2000000 [1999999,5] (hpTY lr sp t l b1) (hpTY lr sp t l b2) lr sp [(2,.ptr 0 0),(3,.ptr 2 0),(4,.ptr 3 0),(5,.ptr 4 0)] hH hyl rfl (fun x hx=>by
  simp only [List.mem_cons,List.not_mem_nil,or_false] at hx
  rcases hx with rfl|rfl
  ·simp [Kept,hpTY,zm,AO.handle]
  ·simp [Kept,hpTY,hpT5,zm,AO.handle]) (by decide) (by simp [AV.okB,AV.zN]) ?_
 apply hK2;clear hK2 K2
 simp only [List.map_cons,List.map_nil,AV.z1d,AV.z0h,AV.z3b,AV.z3N,AV.z4T,AV.z3M,AV.z2e,AV.z3a,AV.z2d,AV.z3L,AV.z3O,Nat.reduceLeDiff,true_or,reduceIte,List.mem_cons,List.not_mem_nil,or_false,or_true,false_or,List.cons_append,List.nil_append,z0E,tys]
 (with_reducible refine WLI.stepP fun K2 hK2=>?_);simp only [simprocAttr,implies_true,amz,zb,tys];(repeat' (first|with_reducible (first|(apply hK2;clear hK2 K2)|apply And.intro|intro hb)))
 (with_reducible refine WLI.fin ?_);apply hK';clear hK' K';(try simp only [za,z8,reduceIte,Nat.reduceEqDiff]);(try ((repeat ((fail_if_success apply hK);clear hK K));apply hK;clear hK K))
 repeat' (first|refine T.zk fun K hK=>?_|apply T.block|(refine T.reg (by kernel_rfl) fun K' hK'=>?_;simp only [bz];(with_reducible repeat' (first|(apply WL.fin;apply hK';clear hK' K')|(refine WL.step fun K2 hK2=>?_;simp only [simprocAttr,implies_true,amz,zb,tys,w1];repeat' (first|(apply hK2;clear hK2 K2)|apply And.intro|intro hb)))))|apply T.skip|apply T.exit|refine T.zf rfl ?_|refine T.ze rfl ?_|refine T.cond rfl (fun hc=>?_) (fun hc=>?_)|apply T.ret|simp only [za,z8,reduceIte,Nat.reduceEqDiff]|((repeat ((fail_if_success apply hK);clear hK K));apply hK;clear hK K))
 refine hKL _ p (by refine zi.of' rfl ?_;simp only [wks,reduceIte,Nat.reduceEqDiff,ASt.okB,AV.okB,Nat.reduceLT,implies_true,hb2,hpTY,hpT5,hpT,AO.z0c,zo]) (by omega) (by omega)
theorem z6S (t:Tx) (l:List P2) (bs:List UInt8):MemC Tryd.prog 38 1000001 (hpT t bs) [.p (.seq 2 (rowP l))] fun hp' r=>(∃ c,hp' = hpT5 { t with cb:=c } l bs)∧r = .fn (.func 59) [.ptr 5 0]:=by
 simp only [hpT]
 refine MemC.of Tryd.func38 rfl 4 rfl (by decide) ?_;simp only [qK,frOf]
 repeat' (first|refine T.zk fun K hK=>?_|apply T.block|apply T.skip|apply T.exit|refine T.zf rfl ?_|refine T.ze rfl ?_|refine T.cond rfl (fun hc=>?_) (fun hc=>?_)|apply T.ret|simp only [za,z8,reduceIte,Nat.reduceEqDiff]|((repeat ((fail_if_success apply hK);clear hK K));apply hK;clear hK K))
 (refine T.reg (by kernel_rfl) fun K' hK'=>?_;simp only [bz];(with_reducible repeat' (first|(apply WL.fin;apply hK';clear hK' K')|(refine WL.step fun K2 hK2=>?_;simp only [simprocAttr,implies_true,amz,zb,tys];repeat' (first|(apply hK2;clear hK2 K2)|apply And.intro|intro hb))));all_goals ((try simp only [za,z8,reduceIte,Nat.reduceEqDiff]);(try ((repeat ((fail_if_success apply hK);clear hK K));apply hK;clear hK K))))
 refine T.weak (zi.ren _ 1000001 5) ?_;simp only [ASt.ren,AV.zZ,AV.zF,AV.qd,AV.qz,AV.zW,AV.zD,AV.zq,AV.qc,AV.qR,AV.zC,AV.qj,AO.qD,AO.qG,AO.qE,AO.qF,List.map_cons,List.map_nil,List.filter_cons,List.filter_nil,zm,qy,reduceIte,Nat.reduceEqDiff,Nat.reduceLT,Nat.reduceBneDiff,bne_self_eq_false,Bool.and_true,Bool.and_false,Bool.true_and,Bool.false_and,Bool.and_self,Bool.false_eq_true,ne_eq,not_false_eq_true,not_true_eq_false,and_self,and_true,true_and,and_false,bne_self_eq_false,renC]
 refine T.pin 5 _ rfl fun c=>?_;simp only [zU,AO.pin,List.map_cons,List.map_nil,reduceIte,Nat.reduceEqDiff]
 repeat' (first|refine T.zk fun K hK=>?_|apply T.block|(refine T.reg (by kernel_rfl) fun K' hK'=>?_;simp only [bz];(with_reducible repeat' (first|(apply WL.fin;apply hK';clear hK' K')|(refine WL.step fun K2 hK2=>?_;simp only [simprocAttr,implies_true,amz,zb,tys];repeat' (first|(apply hK2;clear hK2 K2)|apply And.intro|intro hb)))))|apply T.skip|apply T.exit|refine T.zf rfl ?_|refine T.ze rfl ?_|refine T.cond rfl (fun hc=>?_) (fun hc=>?_)|apply T.ret|simp only [za,z8,reduceIte,Nat.reduceEqDiff]|((repeat ((fail_if_success apply hK);clear hK K));apply hK;clear hK K))
 refine FinM.ret (s':=⟨[(2,.fn (.func 59) [.ptr 5 0])],hpT5 { t with cb:=c } l bs,4,1000001⟩) (r := .fn (.func 59) [.ptr 5 0]) (.inr rfl) Tryd.results38 (by refine zi.of' rfl ?_;simp only [wks,reduceIte,Nat.reduceEqDiff,ASt.okB,AV.okB,Nat.reduceLT,implies_true,hpT5,hpT,AV.qp,zo]) rfl ?_ ⟨⟨c,rfl⟩,rfl⟩
 simp only [zR,zA,zB,simprocAttr,implies_true,amz,zb,tys]
theorem qo {t:Nat} {o:AO} (h:hpG.lookup t=some o):t=1000000∧o = .boxP (some 0) 159 (z08 z3q):=by
 unfold hpG at h
 rw [zm,qy] at h
 split at h
 ·rename_i e;cases h;exact ⟨e,rfl⟩
 ·cases h
theorem z2B (n:Nat) (ks:List Nat) (l:List Value):(z08 l).map (AV.keep n ks)=z08 l:=by
 simp [z08,AV.z4T]
theorem bsQ_acc (t:Tx) (k:Int) (l:List P2) (bs:List UInt8):bsQ t l (bs++(hdN k).data.toList) 0=bs++(accN t.fs t.st t.sz k l).data.toList:=by
 unfold bsQ accN
 have e:(⟨(bs++(hdN k).data.toList).toArray⟩ : ByteArray)=⟨bs.toArray⟩++hdN k:=by apply z3y;rw [z0G]
 rw [e,List.drop_zero,put_out,z0G]
theorem clos_ok (t:Tx) (hn:NmOk t.fs) (hl:t.st.length≤1000000) (k:Int) (l:List P2) (hll:l.length≤1000) (bs:List UInt8) (hbs:bs.length≤1500000000) :
  MemC Tryd.prog 37 1000001 (hpT t bs) [.int k,.p (.seq 2 (rowP l)),.ptr 0 0,.ptr 2 0,.ptr 3 0,.ptr 4 0] fun hp' r=>hp' = hpT t (bs++(accN t.fs t.st t.sz k l).data.toList)∧r = .tup []:=by
 have hfin:=fun (c:Nat)=>bsQ_acc { t with cb:=c } k l bs
 by_cases k1:k=1
 ·subst k1
  have f1:((1:Int)==1)=true:=rfl
  have f2:=f1
  have hwd:z7s 1=⟨#[114,101,97,100]⟩:=by rfl
  have hhd:hdN 1=(⟨#[32,32]⟩++⟨#[114,101,97,100]⟩)++⟨#[10]⟩:=by rw [hdN,hwd]
  obtain ⟨z,hz⟩ : ∃ z,z=hdN 1:=⟨_,rfl⟩
  rw [← hz] at hhd
  have hzs:z.size≤20:=by rw [hz];exact z7d _
  have c0:((⟨#[32,32]⟩ : ByteArray).size+(⟨#[114,101,97,100]⟩ : ByteArray).size≤9223372036854775807)=True:=eq_true (by decide)
  obtain ⟨z0,hz0⟩ : ∃ z0,z0=(⟨#[32,32]⟩ : ByteArray)++⟨#[114,101,97,100]⟩:=⟨_,rfl⟩
  rw [← hz0] at hhd
  have c1:(z0.size+(⟨#[10]⟩ : ByteArray).size≤9223372036854775807)=True:=eq_true (by have:=congrArg ByteArray.size hhd;rw [ByteArray.size_append] at this;omega)
  have hw:=z4I t.q (.ptr 0 0) bs z (.inr rfl) (by omega)
  have hbk:=z6S t l (bs++z.data.toList)
  simp only [hpB] at hw
  simp only [hpT] at hbk ⊢
  refine MemC.of Tryd.func37 rfl 55 rfl (by decide) ?_;simp only [qK,frOf]
  repeat' (first|refine T.zk fun K hK=>?_|apply T.block|(refine T.reg (by kernel_rfl) fun K' hK'=>?_;simp only [bz];(repeat' (first|(with_reducible refine WL.fin ?_;apply hK';clear hK' K')|((with_reducible refine WL.step fun K2 hK2=>?_);simp only [simprocAttr,implies_true,amz,zb,tys,f1,f2,c0,← hz0,c1,← hhd];(repeat' (first|with_reducible (first|(apply hK2;clear hK2 K2)|apply And.intro|intro hb)|((with_reducible refine qg 2 _ _ [0] (Ent.of Tryd.func36 (by kernel_rfl) rfl) (hw) ?_ ?_ ?_);(focus ((refine ⟨Nat.le_of_ble_eq_true rfl,?_,?_⟩ <;> simp only [pz,reduceIte,Nat.reduceEqDiff,AV.okB,Nat.reduceLT,zo]);done));(focus (simp [AV.okB];done));rintro hp' r ⟨rfl,rfl⟩;refine ⟨by simp [Kept,zm,AO.handle],?_⟩;simp only [cz,ASt.qh,AO.keep,Nat.reduceLeDiff,reduceIte,Nat.reduceEqDiff,z2B])|((with_reducible refine qg 1000001 _ _ [0,2,3,4] (Ent.of Tryd.func38 (by kernel_rfl) rfl) (hbk) ?_ ?_ ?_);(focus ((refine ⟨Nat.le_of_ble_eq_true rfl,?_,?_⟩ <;> simp only [pz,reduceIte,Nat.reduceEqDiff,AV.okB,Nat.reduceLT,zo,AV.qp]);done));(focus (simp [AV.okB];done));rintro hp' r ⟨⟨c,rfl⟩,rfl⟩;refine ⟨by simp [Kept,hpT5,hpT,zm,AO.handle],?_⟩;simp only [hpT5,hpT];simp only [cz,ASt.qh,AO.keep,Nat.reduceLeDiff,reduceIte,Nat.reduceEqDiff,])))))))|apply T.skip|apply T.exit|refine T.zf rfl ?_|refine T.ze rfl ?_|refine T.cond rfl (fun hc=>?_) (fun hc=>?_)|apply T.ret|simp only [za,z8,reduceIte,Nat.reduceEqDiff]|((repeat ((fail_if_success apply hK);clear hK K));apply hK;clear hK K))
  refine T.weak (s':=⟨[(2,.ptr 0 0),(3,.ptr 2 0),(4,.ptr 3 0),(5,.ptr 4 0),(22,.fn (.func 59) [.ptr 5 0])],hpT5 ({ t with cb:=c } : Tx) l (bs++z.data.toList),55,1999999⟩) ?_ ?_
  ·refine zi.frm _ _ _ _ (fun t=>?_) (by simp only [wks,reduceIte,Nat.reduceEqDiff,implies_true,and_self,AV.qp]) (by simp only [wks,AV.okB,Nat.reduceLT,decide_true,List.all_cons,List.all_nil,Bool.and_self,AV.qp]) ?_
   ·simp only [hpT5,hpT,zm,qy]
    repeat' split
    all_goals first|rfl|omega
   ·exact fun t' o h=>(z03 ({ t with cb:=c } : Tx) l _ 1999999 (by omega)).at' h
  refine T.z5I 59 [.ptr 5 0] [(2,.ptr 0 0),(3,.ptr 2 0),(4,.ptr 3 0),(5,.ptr 4 0)] rfl (Ent.of Tryd.func59 (by kernel_rfl) rfl) (by simp [z4R,zm]) fun lr sp hsn hsp hsa hsb=>?_
  have hyld : ∀ bs (p:Nat) (s:P2),l[p]? = some s→bs.length≤4000000000→YldC Tryd.prog lr 2000000 (hpTY lr sp ({ t with cb:=c } : Tx) l bs) [.int p,.agg [.int s.1,.int s.2]] fun hp' r=>hp' = hpTY lr sp ({ t with cb:=c } : Tx) l (bs++(entN t.fs t.st t.sz s).data.toList)∧r = .bool true:=by
   intro bs p s hs hbl
   refine YldC.of 1999999 [0,2,3,4] (fun hp3=>hp3=hpT5 ({ t with cb:=c } : Tx) l (bs++(entN t.fs t.st t.sz s).data.toList)) (sp:=sp) (fr := [(2,.ptr 0 0),(3,.ptr 2 0),(4,.ptr 3 0),(5,.ptr 4 0)]) rfl (by rw [hsp];rfl) (by rw [hsp,hsn];simp) (by simp [AV.z0h]) ?_ ?_ (by simp [AV.zN,AV.okB])
   ·have hfil:(hpTY lr sp ({ t with cb:=c } : Tx) l bs).filter (fun p=>p.1 != 1999999)=hpT5 ({ t with cb:=c } : Tx) l bs:=by
     rw [hpTY,List.filter_cons,if_neg (by simp)]
     exact List.filter_eq_self.2 fun p hp=>by have:=((z03 ({ t with cb:=c } : Tx) l bs 1999999 (by omega)).ok p hp).1;simp;omega
    rw [hsa,hsb,hsp,hsn,hfil]
    have hfl:(t.fs.map fuC).length=t.fs.length:=by simp
    have hln:=z5u t.fs t.g t.y t.mn t.st t.sz s hl
    simp only [pgA,lnA,p2A] at hln
    obtain ⟨n1,n2⟩:=z0y t.fs t.st t.sz s hl
    have hit:=z8t (x:=qw t.fs t.st t.sz s) (by omega) (by omega)
    have hdl:=z2A (x:=qw t.fs t.st t.sz s) (by omega) (by omega)
    have hnm:=z4u hn s
    have e1:(⟨#[32,32,32,32]⟩ : ByteArray).size=4:=rfl
    have e2:(⟨#[58]⟩ : ByteArray).size=1:=rfl
    have e3:(⟨#[10]⟩ : ByteArray).size=1:=rfl
    obtain ⟨z0,ez0⟩ : ∃ z9:ByteArray,(⟨#[32,32,32,32]⟩ : ByteArray)++nmN t.fs s=z9:=⟨_,rfl⟩
    have bz0:z0.size=((⟨#[32,32,32,32]⟩ : ByteArray)).size+(nmN t.fs s).size:=by rw [← ez0,ByteArray.size_append]
    have cz0:(((⟨#[32,32,32,32]⟩ : ByteArray)).size+(nmN t.fs s).size≤9223372036854775807)=True:=eq_true (by omega)
    obtain ⟨z1,ez1⟩ : ∃ z9:ByteArray,z0++(⟨#[58]⟩ : ByteArray)=z9:=⟨_,rfl⟩
    have bz1:z1.size=(z0).size+((⟨#[58]⟩ : ByteArray)).size:=by rw [← ez1,ByteArray.size_append]
    have cz1:((z0).size+((⟨#[58]⟩ : ByteArray)).size≤9223372036854775807)=True:=eq_true (by omega)
    obtain ⟨z2,ez2⟩ : ∃ z9:ByteArray,z1++dI (qw t.fs t.st t.sz s)=z9:=⟨_,rfl⟩
    have bz2:z2.size=(z1).size+(dI (qw t.fs t.st t.sz s)).size:=by rw [← ez2,ByteArray.size_append]
    have cz2:((z1).size+(dI (qw t.fs t.st t.sz s)).size≤9223372036854775807)=True:=eq_true (by omega)
    obtain ⟨z3,ez3⟩ : ∃ z9:ByteArray,z2++(⟨#[10]⟩ : ByteArray)=z9:=⟨_,rfl⟩
    have bz3:z3.size=(z2).size+((⟨#[10]⟩ : ByteArray)).size:=by rw [← ez3,ByteArray.size_append]
    have cz3:((z2).size+((⟨#[10]⟩ : ByteArray)).size≤9223372036854775807)=True:=eq_true (by omega)
    have hres:entN t.fs t.st t.sz s=z3:=by rw [entN,ez0,ez1,ez2,ez3]
    have hz3:z3.size≤1048700:=by rw [← hres];exact z7G hn t.st t.sz s hl
    have w4:=z4I t.q (.ptr 0 0) bs z3 (.inr rfl) (by omega)
    rw [hres]
    simp only [hpB] at w4
    simp only [z6m,hpT5,hpT]
    by_cases a1:s.1<0
    ·have g1:decide (0≤s.1)=false:=by simpa using a1
     have hnn:nmN t.fs s=⟨#[63]⟩:=by simp [nmN,z0B a1]
     rw [hnn] at ez0 cz0
     repeat' (first|refine T.zk fun K hK=>?_|apply T.block|(refine T.reg (by kernel_rfl) fun K' hK'=>?_;simp only [bz];(with_reducible repeat' (first|(apply WL.fin;apply hK';clear hK' K')|(refine WL.step fun K2 hK2=>?_;simp only [simprocAttr,implies_true,amz,zb,tys,g1];repeat' (first|(apply hK2;clear hK2 K2)|apply And.intro|intro hb)))))|apply T.skip|apply T.exit|refine T.zf rfl ?_|refine T.ze rfl ?_|refine T.cond rfl (fun hc=>?_) (fun hc=>?_)|apply T.ret|simp only [za,z8,reduceIte,Nat.reduceEqDiff]|((repeat ((fail_if_success apply hK);clear hK K));apply hK;clear hK K))
     refine T.drw 11 (by kernel_rfl) (by kernel_rfl) fun K' hK'=>?_;simp only [List.map_cons,List.map_nil];(repeat' (first|(with_reducible refine WL.fin ?_;apply hK';clear hK' K')|(with_reducible refine WD.fin ?_)|((with_reducible first|refine WL.step fun K2 hK2=>?_|refine WD.step fun K2 hK2=>?_);simp only [simprocAttr,implies_true,amz,zb,tys,ez0,cz0,ez1,cz1,ez2,cz2,ez3,cz3];(repeat' (first|with_reducible (first|(apply hK2;clear hK2 K2)|apply And.intro|intro hb)|((with_reducible first|apply zh|apply zl);case h=>exact CallV.plain (Ent.of Tryd.func13 (by kernel_rfl) rfl) (hln) (by simp [AV.okB]))|((with_reducible refine ⟨_,CallR.read 1000001 hpG _ rfl rfl (Ent.of Tryd.func35 (by kernel_rfl) rfl) (hit) (z0t (by decide) (fun t o ho=>by obtain ⟨rfl,rfl⟩:=qo ho;simp [zm])) ?_ ?_,?_⟩);(focus (simp [AV.okB];done));(focus rfl))|((with_reducible refine qg 2 _ _ [0] (Ent.of Tryd.func36 (by kernel_rfl) rfl) (w4) ?_ ?_ ?_);(focus ((refine ⟨Nat.le_of_ble_eq_true rfl,?_,?_⟩ <;> simp only [pz,reduceIte,Nat.reduceEqDiff,AV.okB,Nat.reduceLT,zo]);done));(focus (simp [AV.okB];done));rintro hp' r ⟨rfl,rfl⟩;refine ⟨by simp [Kept,zm,AO.handle],?_⟩;simp only [cz,ASt.qh,AO.keep,Nat.reduceLeDiff,reduceIte,Nat.reduceEqDiff,z2B]))))));all_goals ((try simp only [za,z8,reduceIte,Nat.reduceEqDiff]);(try ((repeat ((fail_if_success apply hK);clear hK K));apply hK;clear hK K)))
     all_goals repeat' (first|refine T.zk fun K hK=>?_|apply T.block|(refine T.reg (by kernel_rfl) fun K' hK'=>?_;simp only [bz];(with_reducible repeat' (first|(apply WL.fin;apply hK';clear hK' K')|(refine WL.step fun K2 hK2=>?_;simp only [simprocAttr,implies_true,amz,zb,tys];repeat' (first|(apply hK2;clear hK2 K2)|apply And.intro|intro hb)))))|apply T.skip|apply T.exit|refine T.zf rfl ?_|refine T.ze rfl ?_|refine T.cond rfl (fun hc=>?_) (fun hc=>?_)|apply T.ret|simp only [za,z8,reduceIte,Nat.reduceEqDiff]|((repeat ((fail_if_success apply hK);clear hK K));apply hK;clear hK K))
     all_goals (refine ⟨rfl,⟨[],hpT5 ({ t with cb:=c } : Tx) l (bs++z3.data.toList),55,2000000⟩,(by refine zi.of' rfl ?_;simp only [wks,reduceIte,Nat.reduceEqDiff,ASt.okB,AV.okB,Nat.reduceLT,implies_true,hpT5,hpT,zo]),rfl,(z03 ({ t with cb:=c } : Tx) l _ 1999999 (by omega)).none (Nat.le_refl _),rfl⟩)
    have g1:decide (0≤s.1)=true:=by simpa using a1
    by_cases a2:s.1<(t.fs.length:Int)
    ·have g2:decide (s.1<(t.fs.length:Int))=true:=by simpa using a2
     obtain ⟨f,hf,hf2⟩:=z1k (l:=t.fs) (i:=s.1) (by omega) a2
     have mf:=z6n hf2
     have i1:(0≤s.1)=True:=eq_true (by omega)
     have hnn:nmN t.fs s=f.name:=by simp [nmN,hf]
     rw [hnn] at ez0 cz0
     repeat' (first|refine T.zk fun K hK=>?_|apply T.block|(refine T.reg (by kernel_rfl) fun K' hK'=>?_;simp only [bz];(with_reducible repeat' (first|(apply WL.fin;apply hK';clear hK' K')|(refine WL.step fun K2 hK2=>?_;simp only [simprocAttr,implies_true,amz,zb,tys,hfl,g1,g2,mf,i1,decide_true];repeat' (first|(apply hK2;clear hK2 K2)|apply And.intro|intro hb)))))|apply T.skip|apply T.exit|refine T.zf rfl ?_|refine T.ze rfl ?_|refine T.cond rfl (fun hc=>?_) (fun hc=>?_)|apply T.ret|simp only [za,z8,reduceIte,Nat.reduceEqDiff]|((repeat ((fail_if_success apply hK);clear hK K));apply hK;clear hK K))
     refine T.drw 11 (by kernel_rfl) (by kernel_rfl) fun K' hK'=>?_;simp only [List.map_cons,List.map_nil];(repeat' (first|(with_reducible refine WL.fin ?_;apply hK';clear hK' K')|(with_reducible refine WD.fin ?_)|((with_reducible first|refine WL.step fun K2 hK2=>?_|refine WD.step fun K2 hK2=>?_);simp only [simprocAttr,implies_true,amz,zb,tys,ez0,cz0,ez1,cz1,ez2,cz2,ez3,cz3];(repeat' (first|with_reducible (first|(apply hK2;clear hK2 K2)|apply And.intro|intro hb)|((with_reducible first|apply zh|apply zl);case h=>exact CallV.plain (Ent.of Tryd.func13 (by kernel_rfl) rfl) (hln) (by simp [AV.okB]))|((with_reducible refine ⟨_,CallR.read 1000001 hpG _ rfl rfl (Ent.of Tryd.func35 (by kernel_rfl) rfl) (hit) (z0t (by decide) (fun t o ho=>by obtain ⟨rfl,rfl⟩:=qo ho;simp [zm])) ?_ ?_,?_⟩);(focus (simp [AV.okB];done));(focus rfl))|((with_reducible refine qg 2 _ _ [0] (Ent.of Tryd.func36 (by kernel_rfl) rfl) (w4) ?_ ?_ ?_);(focus ((refine ⟨Nat.le_of_ble_eq_true rfl,?_,?_⟩ <;> simp only [pz,reduceIte,Nat.reduceEqDiff,AV.okB,Nat.reduceLT,zo]);done));(focus (simp [AV.okB];done));rintro hp' r ⟨rfl,rfl⟩;refine ⟨by simp [Kept,zm,AO.handle],?_⟩;simp only [cz,ASt.qh,AO.keep,Nat.reduceLeDiff,reduceIte,Nat.reduceEqDiff,z2B]))))));all_goals ((try simp only [za,z8,reduceIte,Nat.reduceEqDiff]);(try ((repeat ((fail_if_success apply hK);clear hK K));apply hK;clear hK K)))
     all_goals repeat' (first|refine T.zk fun K hK=>?_|apply T.block|(refine T.reg (by kernel_rfl) fun K' hK'=>?_;simp only [bz];(with_reducible repeat' (first|(apply WL.fin;apply hK';clear hK' K')|(refine WL.step fun K2 hK2=>?_;simp only [simprocAttr,implies_true,amz,zb,tys];repeat' (first|(apply hK2;clear hK2 K2)|apply And.intro|intro hb)))))|apply T.skip|apply T.exit|refine T.zf rfl ?_|refine T.ze rfl ?_|refine T.cond rfl (fun hc=>?_) (fun hc=>?_)|apply T.ret|simp only [za,z8,reduceIte,Nat.reduceEqDiff]|((repeat ((fail_if_success apply hK);clear hK K));apply hK;clear hK K))
     all_goals (refine ⟨rfl,⟨[],hpT5 ({ t with cb:=c } : Tx) l (bs++z3.data.toList),55,2000000⟩,(by refine zi.of' rfl ?_;simp only [wks,reduceIte,Nat.reduceEqDiff,ASt.okB,AV.okB,Nat.reduceLT,implies_true,hpT5,hpT,zo]),rfl,(z03 ({ t with cb:=c } : Tx) l _ 1999999 (by omega)).none (Nat.le_refl _),rfl⟩)
    ·have g2:decide (s.1<(t.fs.length:Int))=false:=by simpa using a2
     have hnn:nmN t.fs s=⟨#[63]⟩:=by simp [nmN,z1l (Int.not_lt.1 a2)]
     rw [hnn] at ez0 cz0
     repeat' (first|refine T.zk fun K hK=>?_|apply T.block|(refine T.reg (by kernel_rfl) fun K' hK'=>?_;simp only [bz];(with_reducible repeat' (first|(apply WL.fin;apply hK';clear hK' K')|(refine WL.step fun K2 hK2=>?_;simp only [simprocAttr,implies_true,amz,zb,tys,hfl,g1,g2];repeat' (first|(apply hK2;clear hK2 K2)|apply And.intro|intro hb)))))|apply T.skip|apply T.exit|refine T.zf rfl ?_|refine T.ze rfl ?_|refine T.cond rfl (fun hc=>?_) (fun hc=>?_)|apply T.ret|simp only [za,z8,reduceIte,Nat.reduceEqDiff]|((repeat ((fail_if_success apply hK);clear hK K));apply hK;clear hK K))
     refine T.drw 11 (by kernel_rfl) (by kernel_rfl) fun K' hK'=>?_;simp only [List.map_cons,List.map_nil];(repeat' (first|(with_reducible refine WL.fin ?_;apply hK';clear hK' K')|(with_reducible refine WD.fin ?_)|((with_reducible first|refine WL.step fun K2 hK2=>?_|refine WD.step fun K2 hK2=>?_);simp only [simprocAttr,implies_true,amz,zb,tys,ez0,cz0,ez1,cz1,ez2,cz2,ez3,cz3];(repeat' (first|with_reducible (first|(apply hK2;clear hK2 K2)|apply And.intro|intro hb)|((with_reducible first|apply zh|apply zl);case h=>exact CallV.plain (Ent.of Tryd.func13 (by kernel_rfl) rfl) (hln) (by simp [AV.okB]))|((with_reducible refine ⟨_,CallR.read 1000001 hpG _ rfl rfl (Ent.of Tryd.func35 (by kernel_rfl) rfl) (hit) (z0t (by decide) (fun t o ho=>by obtain ⟨rfl,rfl⟩:=qo ho;simp [zm])) ?_ ?_,?_⟩);(focus (simp [AV.okB];done));(focus rfl))|((with_reducible refine qg 2 _ _ [0] (Ent.of Tryd.func36 (by kernel_rfl) rfl) (w4) ?_ ?_ ?_);(focus ((refine ⟨Nat.le_of_ble_eq_true rfl,?_,?_⟩ <;> simp only [pz,reduceIte,Nat.reduceEqDiff,AV.okB,Nat.reduceLT,zo]);done));(focus (simp [AV.okB];done));rintro hp' r ⟨rfl,rfl⟩;refine ⟨by simp [Kept,zm,AO.handle],?_⟩;simp only [cz,ASt.qh,AO.keep,Nat.reduceLeDiff,reduceIte,Nat.reduceEqDiff,z2B]))))));all_goals ((try simp only [za,z8,reduceIte,Nat.reduceEqDiff]);(try ((repeat ((fail_if_success apply hK);clear hK K));apply hK;clear hK K)))
     all_goals repeat' (first|refine T.zk fun K hK=>?_|apply T.block|(refine T.reg (by kernel_rfl) fun K' hK'=>?_;simp only [bz];(with_reducible repeat' (first|(apply WL.fin;apply hK';clear hK' K')|(refine WL.step fun K2 hK2=>?_;simp only [simprocAttr,implies_true,amz,zb,tys];repeat' (first|(apply hK2;clear hK2 K2)|apply And.intro|intro hb)))))|apply T.skip|apply T.exit|refine T.zf rfl ?_|refine T.ze rfl ?_|refine T.cond rfl (fun hc=>?_) (fun hc=>?_)|apply T.ret|simp only [za,z8,reduceIte,Nat.reduceEqDiff]|((repeat ((fail_if_success apply hK);clear hK K));apply hK;clear hK K))
     all_goals (refine ⟨rfl,⟨[],hpT5 ({ t with cb:=c } : Tx) l (bs++z3.data.toList),55,2000000⟩,(by refine zi.of' rfl ?_;simp only [wks,reduceIte,Nat.reduceEqDiff,ASt.okB,AV.okB,Nat.reduceLT,implies_true,hpT5,hpT,zo]),rfl,(z03 ({ t with cb:=c } : Tx) l _ 1999999 (by omega)).none (Nat.le_refl _),rfl⟩)
   ·rintro hp3 rfl
    refine ⟨?_,?_,?_,rfl⟩
    ·intro x hx
     simp only [List.mem_cons,List.not_mem_nil,or_false] at hx
     rcases hx with rfl|rfl|rfl|rfl <;> simp [Kept,hpTY,hpT5,hpT,zm,AO.z2s]
    ·exact fun p hp=>AO.z1g .zn (Nat.le_refl _) ((z03 ({ t with cb:=c } : Tx) l _ 1999999 (by omega)).ok p hp).2
    ·rfl
  have hzl:z.data.toList.length=z.size:=by rw [Array.length_toList];rfl
  have hmem:=z5k lr sp ({ t with cb:=c } : Tx) l (bs++z.data.toList) hn hl hll (by rw [List.length_append];omega) hyld
  have hfc:=hfin c
  rw [← hz] at hfc
  rw [hfc] at hmem
  have hH:=z4k lr sp ({ t with cb:=c } : Tx) l (bs++z.data.toList)
  refine ⟨2000000,hpTY lr sp ({ t with cb:=c } : Tx) l (bs++z.data.toList),_,[0],hmem,?_,by simp [AV.okB,AV.qp],?_⟩
  ·have he:ASt.hp (ASt.add ⟨[(2,.ptr 0 0),(3,.ptr 2 0),(4,.ptr 3 0),(5,.ptr 4 0),(22,.fn (.func 59) [.ptr 5 0])],hpT5 ({ t with cb:=c } : Tx) l (bs++z.data.toList),55,1999999⟩ (.lrec lr sp [(2,.ptr 0 0),(3,.ptr 2 0),(4,.ptr 3 0),(5,.ptr 4 0)]))=hpTY lr sp ({ t with cb:=c } : Tx) l (bs++z.data.toList):=rfl
   refine ⟨Nat.le_refl _,fun p hp=>⟨?_,hH.ok p hp⟩,fun p hp _=>?_⟩
   ·rw [he];exact hH.one p hp
   ·rw [he] at hp;rw [hH.one p hp];rfl
  rintro hp' r ⟨rfl,rfl⟩
  refine ⟨fun x hx _=>?_,⟨_,rfl⟩,fun ob=>?_⟩
  ·rw [List.mem_singleton.1 hx]
   simp [Kept,hpTY,hpT5,hpT,zm,AO.handle]
  have hfl:List.filter (fun p=>decide (2000000≤p.1)) (hpTY lr sp ({ t with cb:=c } : Tx) l (bs++z.data.toList)) = []:=hH.le
  have hadd:(ASt.add ⟨[(2,.ptr 0 0),(3,.ptr 2 0),(4,.ptr 3 0),(5,.ptr 4 0),(22,.fn (.func 59) [.ptr 5 0])],hpT5 ({ t with cb:=c } : Tx) l (bs++z.data.toList),55,1999999⟩ (.lrec lr sp [(2,.ptr 0 0),(3,.ptr 2 0),(4,.ptr 3 0),(5,.ptr 4 0)]))=⟨[(2,.ptr 0 0),(3,.ptr 2 0),(4,.ptr 3 0),(5,.ptr 4 0),(22,.fn (.func 59) [.ptr 5 0])],hpTY lr sp ({ t with cb:=c } : Tx) l (bs++z.data.toList),55,2000000⟩:=rfl
  rw [hadd]
  simp only [ASt.qh,hfl,List.map_nil,List.append_nil,List.map_cons,zU,hpTY,hpT5,hpT,AV.z1d,AV.z0h,AV.z2d,List.mem_cons,List.not_mem_nil,or_false,or_true,true_or,reduceIte,Nat.reduceEqDiff,Nat.reduceLeDiff,false_or]
  (try simp only [za,z8,reduceIte,Nat.reduceEqDiff]);(try ((repeat ((fail_if_success apply hK);clear hK K));apply hK;clear hK K))
  repeat' (first|refine T.zk fun K hK=>?_|apply T.block|(refine T.reg (by kernel_rfl) fun K' hK'=>?_;simp only [bz];(with_reducible repeat' (first|(apply WL.fin;apply hK';clear hK' K')|(refine WL.step fun K2 hK2=>?_;simp only [simprocAttr,implies_true,amz,zb,tys];repeat' (first|(apply hK2;clear hK2 K2)|apply And.intro|intro hb)))))|apply T.skip|apply T.exit|refine T.zf rfl ?_|refine T.ze rfl ?_|refine T.cond rfl (fun hc=>?_) (fun hc=>?_)|apply T.ret|simp only [za,z8,reduceIte,Nat.reduceEqDiff]|((repeat ((fail_if_success apply hK);clear hK K));apply hK;clear hK K))
  refine FinM.ret (s':=⟨[],hpT t (bs++(accN t.fs t.st t.sz 1 l).data.toList),55,1000001⟩) (r := .tup []) (.inl rfl) Tryd.results37 (by refine zi.of' rfl ?_;simp only [wks,reduceIte,Nat.reduceEqDiff,ASt.okB,AV.okB,Nat.reduceLT,implies_true,hpT,zo,AV.qp,List.map_cons,List.map_nil,List.filter_cons,List.filter_nil,Nat.reduceLeDiff,decide_true,decide_false,Bool.false_eq_true,List.append_nil,List.cons_append,List.nil_append]) rfl (by simp only [zR,zA]) ⟨rfl,rfl⟩
 have f1:(k==1)=false:=by simpa using k1
 by_cases k2:k=2
 ·clear f1
  subst k2
  have f1:((2:Int)==1)=false:=rfl
  have f2:((2:Int)==2)=true:=rfl
  have hwd:z7s 2=⟨#[119,114,105,116,101]⟩:=by rfl
  have hhd:hdN 2=(⟨#[32,32]⟩++⟨#[119,114,105,116,101]⟩)++⟨#[10]⟩:=by rw [hdN,hwd]
  obtain ⟨z,hz⟩ : ∃ z,z=hdN 2:=⟨_,rfl⟩
  rw [← hz] at hhd
  have hzs:z.size≤20:=by rw [hz];exact z7d _
  have c0:((⟨#[32,32]⟩ : ByteArray).size+(⟨#[119,114,105,116,101]⟩ : ByteArray).size≤9223372036854775807)=True:=eq_true (by decide)
  obtain ⟨z0,hz0⟩ : ∃ z0,z0=(⟨#[32,32]⟩ : ByteArray)++⟨#[119,114,105,116,101]⟩:=⟨_,rfl⟩
  rw [← hz0] at hhd
  have c1:(z0.size+(⟨#[10]⟩ : ByteArray).size≤9223372036854775807)=True:=eq_true (by have:=congrArg ByteArray.size hhd;rw [ByteArray.size_append] at this;omega)
  have hw:=z4I t.q (.ptr 0 0) bs z (.inr rfl) (by omega)
  have hbk:=z6S t l (bs++z.data.toList)
  simp only [hpB] at hw
  simp only [hpT] at hbk ⊢
  refine MemC.of Tryd.func37 rfl 55 rfl (by decide) ?_;simp only [qK,frOf]
  repeat' (first|refine T.zk fun K hK=>?_|apply T.block|(refine T.reg (by kernel_rfl) fun K' hK'=>?_;simp only [bz];(repeat' (first|(with_reducible refine WL.fin ?_;apply hK';clear hK' K')|((with_reducible refine WL.step fun K2 hK2=>?_);simp only [simprocAttr,implies_true,amz,zb,tys,f1,f2,c0,← hz0,c1,← hhd];(repeat' (first|with_reducible (first|(apply hK2;clear hK2 K2)|apply And.intro|intro hb)|((with_reducible refine qg 2 _ _ [0] (Ent.of Tryd.func36 (by kernel_rfl) rfl) (hw) ?_ ?_ ?_);(focus ((refine ⟨Nat.le_of_ble_eq_true rfl,?_,?_⟩ <;> simp only [pz,reduceIte,Nat.reduceEqDiff,AV.okB,Nat.reduceLT,zo]);done));(focus (simp [AV.okB];done));rintro hp' r ⟨rfl,rfl⟩;refine ⟨by simp [Kept,zm,AO.handle],?_⟩;simp only [cz,ASt.qh,AO.keep,Nat.reduceLeDiff,reduceIte,Nat.reduceEqDiff,z2B])|((with_reducible refine qg 1000001 _ _ [0,2,3,4] (Ent.of Tryd.func38 (by kernel_rfl) rfl) (hbk) ?_ ?_ ?_);(focus ((refine ⟨Nat.le_of_ble_eq_true rfl,?_,?_⟩ <;> simp only [pz,reduceIte,Nat.reduceEqDiff,AV.okB,Nat.reduceLT,zo,AV.qp]);done));(focus (simp [AV.okB];done));rintro hp' r ⟨⟨c,rfl⟩,rfl⟩;refine ⟨by simp [Kept,hpT5,hpT,zm,AO.handle],?_⟩;simp only [hpT5,hpT];simp only [cz,ASt.qh,AO.keep,Nat.reduceLeDiff,reduceIte,Nat.reduceEqDiff,])))))))|apply T.skip|apply T.exit|refine T.zf rfl ?_|refine T.ze rfl ?_|refine T.cond rfl (fun hc=>?_) (fun hc=>?_)|apply T.ret|simp only [za,z8,reduceIte,Nat.reduceEqDiff]|((repeat ((fail_if_success apply hK);clear hK K));apply hK;clear hK K))
  refine T.weak (s':=⟨[(2,.ptr 0 0),(3,.ptr 2 0),(4,.ptr 3 0),(5,.ptr 4 0),(22,.fn (.func 59) [.ptr 5 0])],hpT5 ({ t with cb:=c } : Tx) l (bs++z.data.toList),55,1999999⟩) ?_ ?_
  ·refine zi.frm _ _ _ _ (fun t=>?_) (by simp only [wks,reduceIte,Nat.reduceEqDiff,implies_true,and_self,AV.qp]) (by simp only [wks,AV.okB,Nat.reduceLT,decide_true,List.all_cons,List.all_nil,Bool.and_self,AV.qp]) ?_
   ·simp only [hpT5,hpT,zm,qy]
    repeat' split
    all_goals first|rfl|omega
   ·exact fun t' o h=>(z03 ({ t with cb:=c } : Tx) l _ 1999999 (by omega)).at' h
  refine T.z5I 59 [.ptr 5 0] [(2,.ptr 0 0),(3,.ptr 2 0),(4,.ptr 3 0),(5,.ptr 4 0)] rfl (Ent.of Tryd.func59 (by kernel_rfl) rfl) (by simp [z4R,zm]) fun lr sp hsn hsp hsa hsb=>?_
  have hyld : ∀ bs (p:Nat) (s:P2),l[p]? = some s→bs.length≤4000000000→YldC Tryd.prog lr 2000000 (hpTY lr sp ({ t with cb:=c } : Tx) l bs) [.int p,.agg [.int s.1,.int s.2]] fun hp' r=>hp' = hpTY lr sp ({ t with cb:=c } : Tx) l (bs++(entN t.fs t.st t.sz s).data.toList)∧r = .bool true:=by
   intro bs p s hs hbl
   refine YldC.of 1999999 [0,2,3,4] (fun hp3=>hp3=hpT5 ({ t with cb:=c } : Tx) l (bs++(entN t.fs t.st t.sz s).data.toList)) (sp:=sp) (fr := [(2,.ptr 0 0),(3,.ptr 2 0),(4,.ptr 3 0),(5,.ptr 4 0)]) rfl (by rw [hsp];rfl) (by rw [hsp,hsn];simp) (by simp [AV.z0h]) ?_ ?_ (by simp [AV.zN,AV.okB])
   ·have hfil:(hpTY lr sp ({ t with cb:=c } : Tx) l bs).filter (fun p=>p.1 != 1999999)=hpT5 ({ t with cb:=c } : Tx) l bs:=by
     rw [hpTY,List.filter_cons,if_neg (by simp)]
     exact List.filter_eq_self.2 fun p hp=>by have:=((z03 ({ t with cb:=c } : Tx) l bs 1999999 (by omega)).ok p hp).1;simp;omega
    rw [hsa,hsb,hsp,hsn,hfil]
    have hfl:(t.fs.map fuC).length=t.fs.length:=by simp
    have hln:=z5u t.fs t.g t.y t.mn t.st t.sz s hl
    simp only [pgA,lnA,p2A] at hln
    obtain ⟨n1,n2⟩:=z0y t.fs t.st t.sz s hl
    have hit:=z8t (x:=qw t.fs t.st t.sz s) (by omega) (by omega)
    have hdl:=z2A (x:=qw t.fs t.st t.sz s) (by omega) (by omega)
    have hnm:=z4u hn s
    have e1:(⟨#[32,32,32,32]⟩ : ByteArray).size=4:=rfl
    have e2:(⟨#[58]⟩ : ByteArray).size=1:=rfl
    have e3:(⟨#[10]⟩ : ByteArray).size=1:=rfl
    obtain ⟨z0,ez0⟩ : ∃ z9:ByteArray,(⟨#[32,32,32,32]⟩ : ByteArray)++nmN t.fs s=z9:=⟨_,rfl⟩
    have bz0:z0.size=((⟨#[32,32,32,32]⟩ : ByteArray)).size+(nmN t.fs s).size:=by rw [← ez0,ByteArray.size_append]
    have cz0:(((⟨#[32,32,32,32]⟩ : ByteArray)).size+(nmN t.fs s).size≤9223372036854775807)=True:=eq_true (by omega)
    obtain ⟨z1,ez1⟩ : ∃ z9:ByteArray,z0++(⟨#[58]⟩ : ByteArray)=z9:=⟨_,rfl⟩
    have bz1:z1.size=(z0).size+((⟨#[58]⟩ : ByteArray)).size:=by rw [← ez1,ByteArray.size_append]
    have cz1:((z0).size+((⟨#[58]⟩ : ByteArray)).size≤9223372036854775807)=True:=eq_true (by omega)
    obtain ⟨z2,ez2⟩ : ∃ z9:ByteArray,z1++dI (qw t.fs t.st t.sz s)=z9:=⟨_,rfl⟩
    have bz2:z2.size=(z1).size+(dI (qw t.fs t.st t.sz s)).size:=by rw [← ez2,ByteArray.size_append]
    have cz2:((z1).size+(dI (qw t.fs t.st t.sz s)).size≤9223372036854775807)=True:=eq_true (by omega)
    obtain ⟨z3,ez3⟩ : ∃ z9:ByteArray,z2++(⟨#[10]⟩ : ByteArray)=z9:=⟨_,rfl⟩
    have bz3:z3.size=(z2).size+((⟨#[10]⟩ : ByteArray)).size:=by rw [← ez3,ByteArray.size_append]
    have cz3:((z2).size+((⟨#[10]⟩ : ByteArray)).size≤9223372036854775807)=True:=eq_true (by omega)
    have hres:entN t.fs t.st t.sz s=z3:=by rw [entN,ez0,ez1,ez2,ez3]
    have hz3:z3.size≤1048700:=by rw [← hres];exact z7G hn t.st t.sz s hl
    have w4:=z4I t.q (.ptr 0 0) bs z3 (.inr rfl) (by omega)
    rw [hres]
    simp only [hpB] at w4
    simp only [z6m,hpT5,hpT]
    by_cases a1:s.1<0
    ·have g1:decide (0≤s.1)=false:=by simpa using a1
     have hnn:nmN t.fs s=⟨#[63]⟩:=by simp [nmN,z0B a1]
     rw [hnn] at ez0 cz0
     repeat' (first|refine T.zk fun K hK=>?_|apply T.block|(refine T.reg (by kernel_rfl) fun K' hK'=>?_;simp only [bz];(with_reducible repeat' (first|(apply WL.fin;apply hK';clear hK' K')|(refine WL.step fun K2 hK2=>?_;simp only [simprocAttr,implies_true,amz,zb,tys,g1];repeat' (first|(apply hK2;clear hK2 K2)|apply And.intro|intro hb)))))|apply T.skip|apply T.exit|refine T.zf rfl ?_|refine T.ze rfl ?_|refine T.cond rfl (fun hc=>?_) (fun hc=>?_)|apply T.ret|simp only [za,z8,reduceIte,Nat.reduceEqDiff]|((repeat ((fail_if_success apply hK);clear hK K));apply hK;clear hK K))
     refine T.drw 11 (by kernel_rfl) (by kernel_rfl) fun K' hK'=>?_;simp only [List.map_cons,List.map_nil];(repeat' (first|(with_reducible refine WL.fin ?_;apply hK';clear hK' K')|(with_reducible refine WD.fin ?_)|((with_reducible first|refine WL.step fun K2 hK2=>?_|refine WD.step fun K2 hK2=>?_);simp only [simprocAttr,implies_true,amz,zb,tys,ez0,cz0,ez1,cz1,ez2,cz2,ez3,cz3];(repeat' (first|with_reducible (first|(apply hK2;clear hK2 K2)|apply And.intro|intro hb)|((with_reducible first|apply zh|apply zl);case h=>exact CallV.plain (Ent.of Tryd.func13 (by kernel_rfl) rfl) (hln) (by simp [AV.okB]))|((with_reducible refine ⟨_,CallR.read 1000001 hpG _ rfl rfl (Ent.of Tryd.func35 (by kernel_rfl) rfl) (hit) (z0t (by decide) (fun t o ho=>by obtain ⟨rfl,rfl⟩:=qo ho;simp [zm])) ?_ ?_,?_⟩);(focus (simp [AV.okB];done));(focus rfl))|((with_reducible refine qg 2 _ _ [0] (Ent.of Tryd.func36 (by kernel_rfl) rfl) (w4) ?_ ?_ ?_);(focus ((refine ⟨Nat.le_of_ble_eq_true rfl,?_,?_⟩ <;> simp only [pz,reduceIte,Nat.reduceEqDiff,AV.okB,Nat.reduceLT,zo]);done));(focus (simp [AV.okB];done));rintro hp' r ⟨rfl,rfl⟩;refine ⟨by simp [Kept,zm,AO.handle],?_⟩;simp only [cz,ASt.qh,AO.keep,Nat.reduceLeDiff,reduceIte,Nat.reduceEqDiff,z2B]))))));all_goals ((try simp only [za,z8,reduceIte,Nat.reduceEqDiff]);(try ((repeat ((fail_if_success apply hK);clear hK K));apply hK;clear hK K)))
     all_goals repeat' (first|refine T.zk fun K hK=>?_|apply T.block|(refine T.reg (by kernel_rfl) fun K' hK'=>?_;simp only [bz];(with_reducible repeat' (first|(apply WL.fin;apply hK';clear hK' K')|(refine WL.step fun K2 hK2=>?_;simp only [simprocAttr,implies_true,amz,zb,tys];repeat' (first|(apply hK2;clear hK2 K2)|apply And.intro|intro hb)))))|apply T.skip|apply T.exit|refine T.zf rfl ?_|refine T.ze rfl ?_|refine T.cond rfl (fun hc=>?_) (fun hc=>?_)|apply T.ret|simp only [za,z8,reduceIte,Nat.reduceEqDiff]|((repeat ((fail_if_success apply hK);clear hK K));apply hK;clear hK K))
     all_goals (refine ⟨rfl,⟨[],hpT5 ({ t with cb:=c } : Tx) l (bs++z3.data.toList),55,2000000⟩,(by refine zi.of' rfl ?_;simp only [wks,reduceIte,Nat.reduceEqDiff,ASt.okB,AV.okB,Nat.reduceLT,implies_true,hpT5,hpT,zo]),rfl,(z03 ({ t with cb:=c } : Tx) l _ 1999999 (by omega)).none (Nat.le_refl _),rfl⟩)
    have g1:decide (0≤s.1)=true:=by simpa using a1
    by_cases a2:s.1<(t.fs.length:Int)
    ·have g2:decide (s.1<(t.fs.length:Int))=true:=by simpa using a2
     obtain ⟨f,hf,hf2⟩:=z1k (l:=t.fs) (i:=s.1) (by omega) a2
     have mf:=z6n hf2
     have i1:(0≤s.1)=True:=eq_true (by omega)
     have hnn:nmN t.fs s=f.name:=by simp [nmN,hf]
     rw [hnn] at ez0 cz0
     repeat' (first|refine T.zk fun K hK=>?_|apply T.block|(refine T.reg (by kernel_rfl) fun K' hK'=>?_;simp only [bz];(with_reducible repeat' (first|(apply WL.fin;apply hK';clear hK' K')|(refine WL.step fun K2 hK2=>?_;simp only [simprocAttr,implies_true,amz,zb,tys,hfl,g1,g2,mf,i1,decide_true];repeat' (first|(apply hK2;clear hK2 K2)|apply And.intro|intro hb)))))|apply T.skip|apply T.exit|refine T.zf rfl ?_|refine T.ze rfl ?_|refine T.cond rfl (fun hc=>?_) (fun hc=>?_)|apply T.ret|simp only [za,z8,reduceIte,Nat.reduceEqDiff]|((repeat ((fail_if_success apply hK);clear hK K));apply hK;clear hK K))
     refine T.drw 11 (by kernel_rfl) (by kernel_rfl) fun K' hK'=>?_;simp only [List.map_cons,List.map_nil];(repeat' (first|(with_reducible refine WL.fin ?_;apply hK';clear hK' K')|(with_reducible refine WD.fin ?_)|((with_reducible first|refine WL.step fun K2 hK2=>?_|refine WD.step fun K2 hK2=>?_);simp only [simprocAttr,implies_true,amz,zb,tys,ez0,cz0,ez1,cz1,ez2,cz2,ez3,cz3];(repeat' (first|with_reducible (first|(apply hK2;clear hK2 K2)|apply And.intro|intro hb)|((with_reducible first|apply zh|apply zl);case h=>exact CallV.plain (Ent.of Tryd.func13 (by kernel_rfl) rfl) (hln) (by simp [AV.okB]))|((with_reducible refine ⟨_,CallR.read 1000001 hpG _ rfl rfl (Ent.of Tryd.func35 (by kernel_rfl) rfl) (hit) (z0t (by decide) (fun t o ho=>by obtain ⟨rfl,rfl⟩:=qo ho;simp [zm])) ?_ ?_,?_⟩);(focus (simp [AV.okB];done));(focus rfl))|((with_reducible refine qg 2 _ _ [0] (Ent.of Tryd.func36 (by kernel_rfl) rfl) (w4) ?_ ?_ ?_);(focus ((refine ⟨Nat.le_of_ble_eq_true rfl,?_,?_⟩ <;> simp only [pz,reduceIte,Nat.reduceEqDiff,AV.okB,Nat.reduceLT,zo]);done));(focus (simp [AV.okB];done));rintro hp' r ⟨rfl,rfl⟩;refine ⟨by simp [Kept,zm,AO.handle],?_⟩;simp only [cz,ASt.qh,AO.keep,Nat.reduceLeDiff,reduceIte,Nat.reduceEqDiff,z2B]))))));all_goals ((try simp only [za,z8,reduceIte,Nat.reduceEqDiff]);(try ((repeat ((fail_if_success apply hK);clear hK K));apply hK;clear hK K)))
     all_goals repeat' (first|refine T.zk fun K hK=>?_|apply T.block|(refine T.reg (by kernel_rfl) fun K' hK'=>?_;simp only [bz];(with_reducible repeat' (first|(apply WL.fin;apply hK';clear hK' K')|(refine WL.step fun K2 hK2=>?_;simp only [simprocAttr,implies_true,amz,zb,tys];repeat' (first|(apply hK2;clear hK2 K2)|apply And.intro|intro hb)))))|apply T.skip|apply T.exit|refine T.zf rfl ?_|refine T.ze rfl ?_|refine T.cond rfl (fun hc=>?_) (fun hc=>?_)|apply T.ret|simp only [za,z8,reduceIte,Nat.reduceEqDiff]|((repeat ((fail_if_success apply hK);clear hK K));apply hK;clear hK K))
     all_goals (refine ⟨rfl,⟨[],hpT5 ({ t with cb:=c } : Tx) l (bs++z3.data.toList),55,2000000⟩,(by refine zi.of' rfl ?_;simp only [wks,reduceIte,Nat.reduceEqDiff,ASt.okB,AV.okB,Nat.reduceLT,implies_true,hpT5,hpT,zo]),rfl,(z03 ({ t with cb:=c } : Tx) l _ 1999999 (by omega)).none (Nat.le_refl _),rfl⟩)
    ·have g2:decide (s.1<(t.fs.length:Int))=false:=by simpa using a2
     have hnn:nmN t.fs s=⟨#[63]⟩:=by simp [nmN,z1l (Int.not_lt.1 a2)]
     rw [hnn] at ez0 cz0
     repeat' (first|refine T.zk fun K hK=>?_|apply T.block|(refine T.reg (by kernel_rfl) fun K' hK'=>?_;simp only [bz];(with_reducible repeat' (first|(apply WL.fin;apply hK';clear hK' K')|(refine WL.step fun K2 hK2=>?_;simp only [simprocAttr,implies_true,amz,zb,tys,hfl,g1,g2];repeat' (first|(apply hK2;clear hK2 K2)|apply And.intro|intro hb)))))|apply T.skip|apply T.exit|refine T.zf rfl ?_|refine T.ze rfl ?_|refine T.cond rfl (fun hc=>?_) (fun hc=>?_)|apply T.ret|simp only [za,z8,reduceIte,Nat.reduceEqDiff]|((repeat ((fail_if_success apply hK);clear hK K));apply hK;clear hK K))
     refine T.drw 11 (by kernel_rfl) (by kernel_rfl) fun K' hK'=>?_;simp only [List.map_cons,List.map_nil];(repeat' (first|(with_reducible refine WL.fin ?_;apply hK';clear hK' K')|(with_reducible refine WD.fin ?_)|((with_reducible first|refine WL.step fun K2 hK2=>?_|refine WD.step fun K2 hK2=>?_);simp only [simprocAttr,implies_true,amz,zb,tys,ez0,cz0,ez1,cz1,ez2,cz2,ez3,cz3];(repeat' (first|with_reducible (first|(apply hK2;clear hK2 K2)|apply And.intro|intro hb)|((with_reducible first|apply zh|apply zl);case h=>exact CallV.plain (Ent.of Tryd.func13 (by kernel_rfl) rfl) (hln) (by simp [AV.okB]))|((with_reducible refine ⟨_,CallR.read 1000001 hpG _ rfl rfl (Ent.of Tryd.func35 (by kernel_rfl) rfl) (hit) (z0t (by decide) (fun t o ho=>by obtain ⟨rfl,rfl⟩:=qo ho;simp [zm])) ?_ ?_,?_⟩);(focus (simp [AV.okB];done));(focus rfl))|((with_reducible refine qg 2 _ _ [0] (Ent.of Tryd.func36 (by kernel_rfl) rfl) (w4) ?_ ?_ ?_);(focus ((refine ⟨Nat.le_of_ble_eq_true rfl,?_,?_⟩ <;> simp only [pz,reduceIte,Nat.reduceEqDiff,AV.okB,Nat.reduceLT,zo]);done));(focus (simp [AV.okB];done));rintro hp' r ⟨rfl,rfl⟩;refine ⟨by simp [Kept,zm,AO.handle],?_⟩;simp only [cz,ASt.qh,AO.keep,Nat.reduceLeDiff,reduceIte,Nat.reduceEqDiff,z2B]))))));all_goals ((try simp only [za,z8,reduceIte,Nat.reduceEqDiff]);(try ((repeat ((fail_if_success apply hK);clear hK K));apply hK;clear hK K)))
     all_goals repeat' (first|refine T.zk fun K hK=>?_|apply T.block|(refine T.reg (by kernel_rfl) fun K' hK'=>?_;simp only [bz];(with_reducible repeat' (first|(apply WL.fin;apply hK';clear hK' K')|(refine WL.step fun K2 hK2=>?_;simp only [simprocAttr,implies_true,amz,zb,tys];repeat' (first|(apply hK2;clear hK2 K2)|apply And.intro|intro hb)))))|apply T.skip|apply T.exit|refine T.zf rfl ?_|refine T.ze rfl ?_|refine T.cond rfl (fun hc=>?_) (fun hc=>?_)|apply T.ret|simp only [za,z8,reduceIte,Nat.reduceEqDiff]|((repeat ((fail_if_success apply hK);clear hK K));apply hK;clear hK K))
     all_goals (refine ⟨rfl,⟨[],hpT5 ({ t with cb:=c } : Tx) l (bs++z3.data.toList),55,2000000⟩,(by refine zi.of' rfl ?_;simp only [wks,reduceIte,Nat.reduceEqDiff,ASt.okB,AV.okB,Nat.reduceLT,implies_true,hpT5,hpT,zo]),rfl,(z03 ({ t with cb:=c } : Tx) l _ 1999999 (by omega)).none (Nat.le_refl _),rfl⟩)
   ·rintro hp3 rfl
    refine ⟨?_,?_,?_,rfl⟩
    ·intro x hx
     simp only [List.mem_cons,List.not_mem_nil,or_false] at hx
     rcases hx with rfl|rfl|rfl|rfl <;> simp [Kept,hpTY,hpT5,hpT,zm,AO.z2s]
    ·exact fun p hp=>AO.z1g .zn (Nat.le_refl _) ((z03 ({ t with cb:=c } : Tx) l _ 1999999 (by omega)).ok p hp).2
    ·rfl
  have hzl:z.data.toList.length=z.size:=by rw [Array.length_toList];rfl
  have hmem:=z5k lr sp ({ t with cb:=c } : Tx) l (bs++z.data.toList) hn hl hll (by rw [List.length_append];omega) hyld
  have hfc:=hfin c
  rw [← hz] at hfc
  rw [hfc] at hmem
  have hH:=z4k lr sp ({ t with cb:=c } : Tx) l (bs++z.data.toList)
  refine ⟨2000000,hpTY lr sp ({ t with cb:=c } : Tx) l (bs++z.data.toList),_,[0],hmem,?_,by simp [AV.okB,AV.qp],?_⟩
  ·have he:ASt.hp (ASt.add ⟨[(2,.ptr 0 0),(3,.ptr 2 0),(4,.ptr 3 0),(5,.ptr 4 0),(22,.fn (.func 59) [.ptr 5 0])],hpT5 ({ t with cb:=c } : Tx) l (bs++z.data.toList),55,1999999⟩ (.lrec lr sp [(2,.ptr 0 0),(3,.ptr 2 0),(4,.ptr 3 0),(5,.ptr 4 0)]))=hpTY lr sp ({ t with cb:=c } : Tx) l (bs++z.data.toList):=rfl
   refine ⟨Nat.le_refl _,fun p hp=>⟨?_,hH.ok p hp⟩,fun p hp _=>?_⟩
   ·rw [he];exact hH.one p hp
   ·rw [he] at hp;rw [hH.one p hp];rfl
  rintro hp' r ⟨rfl,rfl⟩
  refine ⟨fun x hx _=>?_,⟨_,rfl⟩,fun ob=>?_⟩
  ·rw [List.mem_singleton.1 hx]
   simp [Kept,hpTY,hpT5,hpT,zm,AO.handle]
  have hfl:List.filter (fun p=>decide (2000000≤p.1)) (hpTY lr sp ({ t with cb:=c } : Tx) l (bs++z.data.toList)) = []:=hH.le
  have hadd:(ASt.add ⟨[(2,.ptr 0 0),(3,.ptr 2 0),(4,.ptr 3 0),(5,.ptr 4 0),(22,.fn (.func 59) [.ptr 5 0])],hpT5 ({ t with cb:=c } : Tx) l (bs++z.data.toList),55,1999999⟩ (.lrec lr sp [(2,.ptr 0 0),(3,.ptr 2 0),(4,.ptr 3 0),(5,.ptr 4 0)]))=⟨[(2,.ptr 0 0),(3,.ptr 2 0),(4,.ptr 3 0),(5,.ptr 4 0),(22,.fn (.func 59) [.ptr 5 0])],hpTY lr sp ({ t with cb:=c } : Tx) l (bs++z.data.toList),55,2000000⟩:=rfl
  rw [hadd]
  simp only [ASt.qh,hfl,List.map_nil,List.append_nil,List.map_cons,zU,hpTY,hpT5,hpT,AV.z1d,AV.z0h,AV.z2d,List.mem_cons,List.not_mem_nil,or_false,or_true,true_or,reduceIte,Nat.reduceEqDiff,Nat.reduceLeDiff,false_or]
  (try simp only [za,z8,reduceIte,Nat.reduceEqDiff]);(try ((repeat ((fail_if_success apply hK);clear hK K));apply hK;clear hK K))
  repeat' (first|refine T.zk fun K hK=>?_|apply T.block|(refine T.reg (by kernel_rfl) fun K' hK'=>?_;simp only [bz];(with_reducible repeat' (first|(apply WL.fin;apply hK';clear hK' K')|(refine WL.step fun K2 hK2=>?_;simp only [simprocAttr,implies_true,amz,zb,tys];repeat' (first|(apply hK2;clear hK2 K2)|apply And.intro|intro hb)))))|apply T.skip|apply T.exit|refine T.zf rfl ?_|refine T.ze rfl ?_|refine T.cond rfl (fun hc=>?_) (fun hc=>?_)|apply T.ret|simp only [za,z8,reduceIte,Nat.reduceEqDiff]|((repeat ((fail_if_success apply hK);clear hK K));apply hK;clear hK K))
  refine FinM.ret (s':=⟨[],hpT t (bs++(accN t.fs t.st t.sz 2 l).data.toList),55,1000001⟩) (r := .tup []) (.inl rfl) Tryd.results37 (by refine zi.of' rfl ?_;simp only [wks,reduceIte,Nat.reduceEqDiff,ASt.okB,AV.okB,Nat.reduceLT,implies_true,hpT,zo,AV.qp,List.map_cons,List.map_nil,List.filter_cons,List.filter_nil,Nat.reduceLeDiff,decide_true,decide_false,Bool.false_eq_true,List.append_nil,List.cons_append,List.nil_append]) rfl (by simp only [zR,zA]) ⟨rfl,rfl⟩
 have f2:(k==2)=false:=by simpa using k2
 have hwd:z7s k=⟨#[63]⟩:=by simp [z7s,k1,k2]
 have hhd:hdN k=(⟨#[32,32]⟩++⟨#[63]⟩)++⟨#[10]⟩:=by rw [hdN,hwd]
 obtain ⟨z,hz⟩ : ∃ z,z=hdN k:=⟨_,rfl⟩
 rw [← hz] at hhd
 have hzs:z.size≤20:=by rw [hz];exact z7d _
 have c0:((⟨#[32,32]⟩ : ByteArray).size+(⟨#[63]⟩ : ByteArray).size≤9223372036854775807)=True:=eq_true (by decide)
 obtain ⟨z0,hz0⟩ : ∃ z0,z0=(⟨#[32,32]⟩ : ByteArray)++⟨#[63]⟩:=⟨_,rfl⟩
 rw [← hz0] at hhd
 have c1:(z0.size+(⟨#[10]⟩ : ByteArray).size≤9223372036854775807)=True:=eq_true (by have:=congrArg ByteArray.size hhd;rw [ByteArray.size_append] at this;omega)
 have hw:=z4I t.q (.ptr 0 0) bs z (.inr rfl) (by omega)
 have hbk:=z6S t l (bs++z.data.toList)
 simp only [hpB] at hw
 simp only [hpT] at hbk ⊢
 refine MemC.of Tryd.func37 rfl 55 rfl (by decide) ?_;simp only [qK,frOf]
 repeat' (first|refine T.zk fun K hK=>?_|apply T.block|(refine T.reg (by kernel_rfl) fun K' hK'=>?_;simp only [bz];(repeat' (first|(with_reducible refine WL.fin ?_;apply hK';clear hK' K')|((with_reducible refine WL.step fun K2 hK2=>?_);simp only [simprocAttr,implies_true,amz,zb,tys,f1,f2,c0,← hz0,c1,← hhd];(repeat' (first|with_reducible (first|(apply hK2;clear hK2 K2)|apply And.intro|intro hb)|((with_reducible refine qg 2 _ _ [0] (Ent.of Tryd.func36 (by kernel_rfl) rfl) (hw) ?_ ?_ ?_);(focus ((refine ⟨Nat.le_of_ble_eq_true rfl,?_,?_⟩ <;> simp only [pz,reduceIte,Nat.reduceEqDiff,AV.okB,Nat.reduceLT,zo]);done));(focus (simp [AV.okB];done));rintro hp' r ⟨rfl,rfl⟩;refine ⟨by simp [Kept,zm,AO.handle],?_⟩;simp only [cz,ASt.qh,AO.keep,Nat.reduceLeDiff,reduceIte,Nat.reduceEqDiff,z2B])|((with_reducible refine qg 1000001 _ _ [0,2,3,4] (Ent.of Tryd.func38 (by kernel_rfl) rfl) (hbk) ?_ ?_ ?_);(focus ((refine ⟨Nat.le_of_ble_eq_true rfl,?_,?_⟩ <;> simp only [pz,reduceIte,Nat.reduceEqDiff,AV.okB,Nat.reduceLT,zo,AV.qp]);done));(focus (simp [AV.okB];done));rintro hp' r ⟨⟨c,rfl⟩,rfl⟩;refine ⟨by simp [Kept,hpT5,hpT,zm,AO.handle],?_⟩;simp only [hpT5,hpT];simp only [cz,ASt.qh,AO.keep,Nat.reduceLeDiff,reduceIte,Nat.reduceEqDiff,])))))))|apply T.skip|apply T.exit|refine T.zf rfl ?_|refine T.ze rfl ?_|refine T.cond rfl (fun hc=>?_) (fun hc=>?_)|apply T.ret|simp only [za,z8,reduceIte,Nat.reduceEqDiff]|((repeat ((fail_if_success apply hK);clear hK K));apply hK;clear hK K))
 refine T.weak (s':=⟨[(2,.ptr 0 0),(3,.ptr 2 0),(4,.ptr 3 0),(5,.ptr 4 0),(22,.fn (.func 59) [.ptr 5 0])],hpT5 ({ t with cb:=c } : Tx) l (bs++z.data.toList),55,1999999⟩) ?_ ?_
 ·refine zi.frm _ _ _ _ (fun t=>?_) (by simp only [wks,reduceIte,Nat.reduceEqDiff,implies_true,and_self,AV.qp]) (by simp only [wks,AV.okB,Nat.reduceLT,decide_true,List.all_cons,List.all_nil,Bool.and_self,AV.qp]) ?_
  ·simp only [hpT5,hpT,zm,qy]
   repeat' split
   all_goals first|rfl|omega
  ·exact fun t' o h=>(z03 ({ t with cb:=c } : Tx) l _ 1999999 (by omega)).at' h
 refine T.z5I 59 [.ptr 5 0] [(2,.ptr 0 0),(3,.ptr 2 0),(4,.ptr 3 0),(5,.ptr 4 0)] rfl (Ent.of Tryd.func59 (by kernel_rfl) rfl) (by simp [z4R,zm]) fun lr sp hsn hsp hsa hsb=>?_
 have hyld : ∀ bs (p:Nat) (s:P2),l[p]? = some s→bs.length≤4000000000→YldC Tryd.prog lr 2000000 (hpTY lr sp ({ t with cb:=c } : Tx) l bs) [.int p,.agg [.int s.1,.int s.2]] fun hp' r=>hp' = hpTY lr sp ({ t with cb:=c } : Tx) l (bs++(entN t.fs t.st t.sz s).data.toList)∧r = .bool true:=by
  intro bs p s hs hbl
  refine YldC.of 1999999 [0,2,3,4] (fun hp3=>hp3=hpT5 ({ t with cb:=c } : Tx) l (bs++(entN t.fs t.st t.sz s).data.toList)) (sp:=sp) (fr := [(2,.ptr 0 0),(3,.ptr 2 0),(4,.ptr 3 0),(5,.ptr 4 0)]) rfl (by rw [hsp];rfl) (by rw [hsp,hsn];simp) (by simp [AV.z0h]) ?_ ?_ (by simp [AV.zN,AV.okB])
  ·have hfil:(hpTY lr sp ({ t with cb:=c } : Tx) l bs).filter (fun p=>p.1 != 1999999)=hpT5 ({ t with cb:=c } : Tx) l bs:=by
    rw [hpTY,List.filter_cons,if_neg (by simp)]
    exact List.filter_eq_self.2 fun p hp=>by have:=((z03 ({ t with cb:=c } : Tx) l bs 1999999 (by omega)).ok p hp).1;simp;omega
   rw [hsa,hsb,hsp,hsn,hfil]
   have hfl:(t.fs.map fuC).length=t.fs.length:=by simp
   have hln:=z5u t.fs t.g t.y t.mn t.st t.sz s hl
   simp only [pgA,lnA,p2A] at hln
   obtain ⟨n1,n2⟩:=z0y t.fs t.st t.sz s hl
   have hit:=z8t (x:=qw t.fs t.st t.sz s) (by omega) (by omega)
   have hdl:=z2A (x:=qw t.fs t.st t.sz s) (by omega) (by omega)
   have hnm:=z4u hn s
   have e1:(⟨#[32,32,32,32]⟩ : ByteArray).size=4:=rfl
   have e2:(⟨#[58]⟩ : ByteArray).size=1:=rfl
   have e3:(⟨#[10]⟩ : ByteArray).size=1:=rfl
   obtain ⟨z0,ez0⟩ : ∃ z9:ByteArray,(⟨#[32,32,32,32]⟩ : ByteArray)++nmN t.fs s=z9:=⟨_,rfl⟩
   have bz0:z0.size=((⟨#[32,32,32,32]⟩ : ByteArray)).size+(nmN t.fs s).size:=by rw [← ez0,ByteArray.size_append]
   have cz0:(((⟨#[32,32,32,32]⟩ : ByteArray)).size+(nmN t.fs s).size≤9223372036854775807)=True:=eq_true (by omega)
   obtain ⟨z1,ez1⟩ : ∃ z9:ByteArray,z0++(⟨#[58]⟩ : ByteArray)=z9:=⟨_,rfl⟩
   have bz1:z1.size=(z0).size+((⟨#[58]⟩ : ByteArray)).size:=by rw [← ez1,ByteArray.size_append]
   have cz1:((z0).size+((⟨#[58]⟩ : ByteArray)).size≤9223372036854775807)=True:=eq_true (by omega)
   obtain ⟨z2,ez2⟩ : ∃ z9:ByteArray,z1++dI (qw t.fs t.st t.sz s)=z9:=⟨_,rfl⟩
   have bz2:z2.size=(z1).size+(dI (qw t.fs t.st t.sz s)).size:=by rw [← ez2,ByteArray.size_append]
   have cz2:((z1).size+(dI (qw t.fs t.st t.sz s)).size≤9223372036854775807)=True:=eq_true (by omega)
   obtain ⟨z3,ez3⟩ : ∃ z9:ByteArray,z2++(⟨#[10]⟩ : ByteArray)=z9:=⟨_,rfl⟩
   have bz3:z3.size=(z2).size+((⟨#[10]⟩ : ByteArray)).size:=by rw [← ez3,ByteArray.size_append]
   have cz3:((z2).size+((⟨#[10]⟩ : ByteArray)).size≤9223372036854775807)=True:=eq_true (by omega)
   have hres:entN t.fs t.st t.sz s=z3:=by rw [entN,ez0,ez1,ez2,ez3]
   have hz3:z3.size≤1048700:=by rw [← hres];exact z7G hn t.st t.sz s hl
   have w4:=z4I t.q (.ptr 0 0) bs z3 (.inr rfl) (by omega)
   rw [hres]
   simp only [hpB] at w4
   simp only [z6m,hpT5,hpT]
   by_cases a1:s.1<0
   ·have g1:decide (0≤s.1)=false:=by simpa using a1
    have hnn:nmN t.fs s=⟨#[63]⟩:=by simp [nmN,z0B a1]
    rw [hnn] at ez0 cz0
    repeat' (first|refine T.zk fun K hK=>?_|apply T.block|(refine T.reg (by kernel_rfl) fun K' hK'=>?_;simp only [bz];(with_reducible repeat' (first|(apply WL.fin;apply hK';clear hK' K')|(refine WL.step fun K2 hK2=>?_;simp only [simprocAttr,implies_true,amz,zb,tys,g1];repeat' (first|(apply hK2;clear hK2 K2)|apply And.intro|intro hb)))))|apply T.skip|apply T.exit|refine T.zf rfl ?_|refine T.ze rfl ?_|refine T.cond rfl (fun hc=>?_) (fun hc=>?_)|apply T.ret|simp only [za,z8,reduceIte,Nat.reduceEqDiff]|((repeat ((fail_if_success apply hK);clear hK K));apply hK;clear hK K))
    refine T.drw 11 (by kernel_rfl) (by kernel_rfl) fun K' hK'=>?_;simp only [List.map_cons,List.map_nil];(repeat' (first|(with_reducible refine WL.fin ?_;apply hK';clear hK' K')|(with_reducible refine WD.fin ?_)|((with_reducible first|refine WL.step fun K2 hK2=>?_|refine WD.step fun K2 hK2=>?_);simp only [simprocAttr,implies_true,amz,zb,tys,ez0,cz0,ez1,cz1,ez2,cz2,ez3,cz3];(repeat' (first|with_reducible (first|(apply hK2;clear hK2 K2)|apply And.intro|intro hb)|((with_reducible first|apply zh|apply zl);case h=>exact CallV.plain (Ent.of Tryd.func13 (by kernel_rfl) rfl) (hln) (by simp [AV.okB]))|((with_reducible refine ⟨_,CallR.read 1000001 hpG _ rfl rfl (Ent.of Tryd.func35 (by kernel_rfl) rfl) (hit) (z0t (by decide) (fun t o ho=>by obtain ⟨rfl,rfl⟩:=qo ho;simp [zm])) ?_ ?_,?_⟩);(focus (simp [AV.okB];done));(focus rfl))|((with_reducible refine qg 2 _ _ [0] (Ent.of Tryd.func36 (by kernel_rfl) rfl) (w4) ?_ ?_ ?_);(focus ((refine ⟨Nat.le_of_ble_eq_true rfl,?_,?_⟩ <;> simp only [pz,reduceIte,Nat.reduceEqDiff,AV.okB,Nat.reduceLT,zo]);done));(focus (simp [AV.okB];done));rintro hp' r ⟨rfl,rfl⟩;refine ⟨by simp [Kept,zm,AO.handle],?_⟩;simp only [cz,ASt.qh,AO.keep,Nat.reduceLeDiff,reduceIte,Nat.reduceEqDiff,z2B]))))));all_goals ((try simp only [za,z8,reduceIte,Nat.reduceEqDiff]);(try ((repeat ((fail_if_success apply hK);clear hK K));apply hK;clear hK K)))
    all_goals repeat' (first|refine T.zk fun K hK=>?_|apply T.block|(refine T.reg (by kernel_rfl) fun K' hK'=>?_;simp only [bz];(with_reducible repeat' (first|(apply WL.fin;apply hK';clear hK' K')|(refine WL.step fun K2 hK2=>?_;simp only [simprocAttr,implies_true,amz,zb,tys];repeat' (first|(apply hK2;clear hK2 K2)|apply And.intro|intro hb)))))|apply T.skip|apply T.exit|refine T.zf rfl ?_|refine T.ze rfl ?_|refine T.cond rfl (fun hc=>?_) (fun hc=>?_)|apply T.ret|simp only [za,z8,reduceIte,Nat.reduceEqDiff]|((repeat ((fail_if_success apply hK);clear hK K));apply hK;clear hK K))
    all_goals (refine ⟨rfl,⟨[],hpT5 ({ t with cb:=c } : Tx) l (bs++z3.data.toList),55,2000000⟩,(by refine zi.of' rfl ?_;simp only [wks,reduceIte,Nat.reduceEqDiff,ASt.okB,AV.okB,Nat.reduceLT,implies_true,hpT5,hpT,zo]),rfl,(z03 ({ t with cb:=c } : Tx) l _ 1999999 (by omega)).none (Nat.le_refl _),rfl⟩)
   have g1:decide (0≤s.1)=true:=by simpa using a1
   by_cases a2:s.1<(t.fs.length:Int)
   ·have g2:decide (s.1<(t.fs.length:Int))=true:=by simpa using a2
    obtain ⟨f,hf,hf2⟩:=z1k (l:=t.fs) (i:=s.1) (by omega) a2
    have mf:=z6n hf2
    have i1:(0≤s.1)=True:=eq_true (by omega)
    have hnn:nmN t.fs s=f.name:=by simp [nmN,hf]
    rw [hnn] at ez0 cz0
    repeat' (first|refine T.zk fun K hK=>?_|apply T.block|(refine T.reg (by kernel_rfl) fun K' hK'=>?_;simp only [bz];(with_reducible repeat' (first|(apply WL.fin;apply hK';clear hK' K')|(refine WL.step fun K2 hK2=>?_;simp only [simprocAttr,implies_true,amz,zb,tys,hfl,g1,g2,mf,i1,decide_true];repeat' (first|(apply hK2;clear hK2 K2)|apply And.intro|intro hb)))))|apply T.skip|apply T.exit|refine T.zf rfl ?_|refine T.ze rfl ?_|refine T.cond rfl (fun hc=>?_) (fun hc=>?_)|apply T.ret|simp only [za,z8,reduceIte,Nat.reduceEqDiff]|((repeat ((fail_if_success apply hK);clear hK K));apply hK;clear hK K))
    refine T.drw 11 (by kernel_rfl) (by kernel_rfl) fun K' hK'=>?_;simp only [List.map_cons,List.map_nil];(repeat' (first|(with_reducible refine WL.fin ?_;apply hK';clear hK' K')|(with_reducible refine WD.fin ?_)|((with_reducible first|refine WL.step fun K2 hK2=>?_|refine WD.step fun K2 hK2=>?_);simp only [simprocAttr,implies_true,amz,zb,tys,ez0,cz0,ez1,cz1,ez2,cz2,ez3,cz3];(repeat' (first|with_reducible (first|(apply hK2;clear hK2 K2)|apply And.intro|intro hb)|((with_reducible first|apply zh|apply zl);case h=>exact CallV.plain (Ent.of Tryd.func13 (by kernel_rfl) rfl) (hln) (by simp [AV.okB]))|((with_reducible refine ⟨_,CallR.read 1000001 hpG _ rfl rfl (Ent.of Tryd.func35 (by kernel_rfl) rfl) (hit) (z0t (by decide) (fun t o ho=>by obtain ⟨rfl,rfl⟩:=qo ho;simp [zm])) ?_ ?_,?_⟩);(focus (simp [AV.okB];done));(focus rfl))|((with_reducible refine qg 2 _ _ [0] (Ent.of Tryd.func36 (by kernel_rfl) rfl) (w4) ?_ ?_ ?_);(focus ((refine ⟨Nat.le_of_ble_eq_true rfl,?_,?_⟩ <;> simp only [pz,reduceIte,Nat.reduceEqDiff,AV.okB,Nat.reduceLT,zo]);done));(focus (simp [AV.okB];done));rintro hp' r ⟨rfl,rfl⟩;refine ⟨by simp [Kept,zm,AO.handle],?_⟩;simp only [cz,ASt.qh,AO.keep,Nat.reduceLeDiff,reduceIte,Nat.reduceEqDiff,z2B]))))));all_goals ((try simp only [za,z8,reduceIte,Nat.reduceEqDiff]);(try ((repeat ((fail_if_success apply hK);clear hK K));apply hK;clear hK K)))
    all_goals repeat' (first|refine T.zk fun K hK=>?_|apply T.block|(refine T.reg (by kernel_rfl) fun K' hK'=>?_;simp only [bz];(with_reducible repeat' (first|(apply WL.fin;apply hK';clear hK' K')|(refine WL.step fun K2 hK2=>?_;simp only [simprocAttr,implies_true,amz,zb,tys];repeat' (first|(apply hK2;clear hK2 K2)|apply And.intro|intro hb)))))|apply T.skip|apply T.exit|refine T.zf rfl ?_|refine T.ze rfl ?_|refine T.cond rfl (fun hc=>?_) (fun hc=>?_)|apply T.ret|simp only [za,z8,reduceIte,Nat.reduceEqDiff]|((repeat ((fail_if_success apply hK);clear hK K));apply hK;clear hK K))
    all_goals (refine ⟨rfl,⟨[],hpT5 ({ t with cb:=c } : Tx) l (bs++z3.data.toList),55,2000000⟩,(by refine zi.of' rfl ?_;simp only [wks,reduceIte,Nat.reduceEqDiff,ASt.okB,AV.okB,Nat.reduceLT,implies_true,hpT5,hpT,zo]),rfl,(z03 ({ t with cb:=c } : Tx) l _ 1999999 (by omega)).none (Nat.le_refl _),rfl⟩)
   ·have g2:decide (s.1<(t.fs.length:Int))=false:=by simpa using a2
    have hnn:nmN t.fs s=⟨#[63]⟩:=by simp [nmN,z1l (Int.not_lt.1 a2)]
    rw [hnn] at ez0 cz0
    repeat' (first|refine T.zk fun K hK=>?_|apply T.block|(refine T.reg (by kernel_rfl) fun K' hK'=>?_;simp only [bz];(with_reducible repeat' (first|(apply WL.fin;apply hK';clear hK' K')|(refine WL.step fun K2 hK2=>?_;simp only [simprocAttr,implies_true,amz,zb,tys,hfl,g1,g2];repeat' (first|(apply hK2;clear hK2 K2)|apply And.intro|intro hb)))))|apply T.skip|apply T.exit|refine T.zf rfl ?_|refine T.ze rfl ?_|refine T.cond rfl (fun hc=>?_) (fun hc=>?_)|apply T.ret|simp only [za,z8,reduceIte,Nat.reduceEqDiff]|((repeat ((fail_if_success apply hK);clear hK K));apply hK;clear hK K))
    refine T.drw 11 (by kernel_rfl) (by kernel_rfl) fun K' hK'=>?_;simp only [List.map_cons,List.map_nil];(repeat' (first|(with_reducible refine WL.fin ?_;apply hK';clear hK' K')|(with_reducible refine WD.fin ?_)|((with_reducible first|refine WL.step fun K2 hK2=>?_|refine WD.step fun K2 hK2=>?_);simp only [simprocAttr,implies_true,amz,zb,tys,ez0,cz0,ez1,cz1,ez2,cz2,ez3,cz3];(repeat' (first|with_reducible (first|(apply hK2;clear hK2 K2)|apply And.intro|intro hb)|((with_reducible first|apply zh|apply zl);case h=>exact CallV.plain (Ent.of Tryd.func13 (by kernel_rfl) rfl) (hln) (by simp [AV.okB]))|((with_reducible refine ⟨_,CallR.read 1000001 hpG _ rfl rfl (Ent.of Tryd.func35 (by kernel_rfl) rfl) (hit) (z0t (by decide) (fun t o ho=>by obtain ⟨rfl,rfl⟩:=qo ho;simp [zm])) ?_ ?_,?_⟩);(focus (simp [AV.okB];done));(focus rfl))|((with_reducible refine qg 2 _ _ [0] (Ent.of Tryd.func36 (by kernel_rfl) rfl) (w4) ?_ ?_ ?_);(focus ((refine ⟨Nat.le_of_ble_eq_true rfl,?_,?_⟩ <;> simp only [pz,reduceIte,Nat.reduceEqDiff,AV.okB,Nat.reduceLT,zo]);done));(focus (simp [AV.okB];done));rintro hp' r ⟨rfl,rfl⟩;refine ⟨by simp [Kept,zm,AO.handle],?_⟩;simp only [cz,ASt.qh,AO.keep,Nat.reduceLeDiff,reduceIte,Nat.reduceEqDiff,z2B]))))));all_goals ((try simp only [za,z8,reduceIte,Nat.reduceEqDiff]);(try ((repeat ((fail_if_success apply hK);clear hK K));apply hK;clear hK K)))
    all_goals repeat' (first|refine T.zk fun K hK=>?_|apply T.block|(refine T.reg (by kernel_rfl) fun K' hK'=>?_;simp only [bz];(with_reducible repeat' (first|(apply WL.fin;apply hK';clear hK' K')|(refine WL.step fun K2 hK2=>?_;simp only [simprocAttr,implies_true,amz,zb,tys];repeat' (first|(apply hK2;clear hK2 K2)|apply And.intro|intro hb)))))|apply T.skip|apply T.exit|refine T.zf rfl ?_|refine T.ze rfl ?_|refine T.cond rfl (fun hc=>?_) (fun hc=>?_)|apply T.ret|simp only [za,z8,reduceIte,Nat.reduceEqDiff]|((repeat ((fail_if_success apply hK);clear hK K));apply hK;clear hK K))
    all_goals (refine ⟨rfl,⟨[],hpT5 ({ t with cb:=c } : Tx) l (bs++z3.data.toList),55,2000000⟩,(by refine zi.of' rfl ?_;simp only [wks,reduceIte,Nat.reduceEqDiff,ASt.okB,AV.okB,Nat.reduceLT,implies_true,hpT5,hpT,zo]),rfl,(z03 ({ t with cb:=c } : Tx) l _ 1999999 (by omega)).none (Nat.le_refl _),rfl⟩)
  ·rintro hp3 rfl
   refine ⟨?_,?_,?_,rfl⟩
   ·intro x hx
    simp only [List.mem_cons,List.not_mem_nil,or_false] at hx
    rcases hx with rfl|rfl|rfl|rfl <;> simp [Kept,hpTY,hpT5,hpT,zm,AO.z2s]
   ·exact fun p hp=>AO.z1g .zn (Nat.le_refl _) ((z03 ({ t with cb:=c } : Tx) l _ 1999999 (by omega)).ok p hp).2
   ·rfl
 have hzl:z.data.toList.length=z.size:=by rw [Array.length_toList];rfl
 have hmem:=z5k lr sp ({ t with cb:=c } : Tx) l (bs++z.data.toList) hn hl hll (by rw [List.length_append];omega) hyld
 have hfc:=hfin c
 rw [← hz] at hfc
 rw [hfc] at hmem
 have hH:=z4k lr sp ({ t with cb:=c } : Tx) l (bs++z.data.toList)
 refine ⟨2000000,hpTY lr sp ({ t with cb:=c } : Tx) l (bs++z.data.toList),_,[0],hmem,?_,by simp [AV.okB,AV.qp],?_⟩
 ·have he:ASt.hp (ASt.add ⟨[(2,.ptr 0 0),(3,.ptr 2 0),(4,.ptr 3 0),(5,.ptr 4 0),(22,.fn (.func 59) [.ptr 5 0])],hpT5 ({ t with cb:=c } : Tx) l (bs++z.data.toList),55,1999999⟩ (.lrec lr sp [(2,.ptr 0 0),(3,.ptr 2 0),(4,.ptr 3 0),(5,.ptr 4 0)]))=hpTY lr sp ({ t with cb:=c } : Tx) l (bs++z.data.toList):=rfl
  refine ⟨Nat.le_refl _,fun p hp=>⟨?_,hH.ok p hp⟩,fun p hp _=>?_⟩
  ·rw [he];exact hH.one p hp
  ·rw [he] at hp;rw [hH.one p hp];rfl
 rintro hp' r ⟨rfl,rfl⟩
 refine ⟨fun x hx _=>?_,⟨_,rfl⟩,fun ob=>?_⟩
 ·rw [List.mem_singleton.1 hx]
  simp [Kept,hpTY,hpT5,hpT,zm,AO.handle]
 have hfl:List.filter (fun p=>decide (2000000≤p.1)) (hpTY lr sp ({ t with cb:=c } : Tx) l (bs++z.data.toList)) = []:=hH.le
 have hadd:(ASt.add ⟨[(2,.ptr 0 0),(3,.ptr 2 0),(4,.ptr 3 0),(5,.ptr 4 0),(22,.fn (.func 59) [.ptr 5 0])],hpT5 ({ t with cb:=c } : Tx) l (bs++z.data.toList),55,1999999⟩ (.lrec lr sp [(2,.ptr 0 0),(3,.ptr 2 0),(4,.ptr 3 0),(5,.ptr 4 0)]))=⟨[(2,.ptr 0 0),(3,.ptr 2 0),(4,.ptr 3 0),(5,.ptr 4 0),(22,.fn (.func 59) [.ptr 5 0])],hpTY lr sp ({ t with cb:=c } : Tx) l (bs++z.data.toList),55,2000000⟩:=rfl
 rw [hadd]
 simp only [ASt.qh,hfl,List.map_nil,List.append_nil,List.map_cons,zU,hpTY,hpT5,hpT,AV.z1d,AV.z0h,AV.z2d,List.mem_cons,List.not_mem_nil,or_false,or_true,true_or,reduceIte,Nat.reduceEqDiff,Nat.reduceLeDiff,false_or]
 (try simp only [za,z8,reduceIte,Nat.reduceEqDiff]);(try ((repeat ((fail_if_success apply hK);clear hK K));apply hK;clear hK K))
 repeat' (first|refine T.zk fun K hK=>?_|apply T.block|(refine T.reg (by kernel_rfl) fun K' hK'=>?_;simp only [bz];(with_reducible repeat' (first|(apply WL.fin;apply hK';clear hK' K')|(refine WL.step fun K2 hK2=>?_;simp only [simprocAttr,implies_true,amz,zb,tys];repeat' (first|(apply hK2;clear hK2 K2)|apply And.intro|intro hb)))))|apply T.skip|apply T.exit|refine T.zf rfl ?_|refine T.ze rfl ?_|refine T.cond rfl (fun hc=>?_) (fun hc=>?_)|apply T.ret|simp only [za,z8,reduceIte,Nat.reduceEqDiff]|((repeat ((fail_if_success apply hK);clear hK K));apply hK;clear hK K))
 refine FinM.ret (s':=⟨[],hpT t (bs++(accN t.fs t.st t.sz k l).data.toList),55,1000001⟩) (r := .tup []) (.inl rfl) Tryd.results37 (by refine zi.of' rfl ?_;simp only [wks,reduceIte,Nat.reduceEqDiff,ASt.okB,AV.okB,Nat.reduceLT,implies_true,hpT,zo,AV.qp,List.map_cons,List.map_nil,List.filter_cons,List.filter_nil,Nat.reduceLeDiff,decide_true,decide_false,Bool.false_eq_true,List.append_nil,List.cons_append,List.nil_append]) rfl (by simp only [zR,zA]) ⟨rfl,rfl⟩
end Go.Proofs.YtbkkginjfnjffaaDoor
namespace Go.Proofs.YtbkkginjfnjffaaDoor
open Go.RowKit Go.Sort
theorem hed_le {r:Rep} (h:RepW r):(hedN r).size≤100:=by
 have h1:=z2A h.obj.1 h.obj.2
 have h2:=z2A h.off.1 h.off.2
 have h3:=z2A h.cnt.1 h.cnt.2
 unfold hedN
 simp only [ByteArray.size_append]
 have e1:(⟨#[114,97,99,101,32]⟩ : ByteArray).size=5:=rfl
 have e2:(⟨#[46]⟩ : ByteArray).size=1:=rfl
 have e3:(⟨#[32]⟩ : ByteArray).size=1:=rfl
 have e4:(⟨#[10]⟩ : ByteArray).size=1:=rfl
 omega
theorem textR_ok (fs:List Fu) (g y:PV) (mn:Int) (st:List Int) (sz:Int) (r:Rep) (hn:NmOk fs) (hl:st.length≤1000000) (h1:r.s1.length≤1000) (h2:r.s2.length≤1000) (hw:RepW r):zy Tryd.prog 16 [pgA fs g y mn,lnA st sz,repA r] (.str (txtN fs st sz r)):=by
 have ha1:=z6b fs g y mn st sz r.k1 r.s1 hn hl h1
 have ha2:=z6b fs g y mn st sz r.k2 r.s2 hn hl h2
 have d1:=z4P r.obj hw.obj.1 hw.obj.2
 have d2:=z4P r.off hw.off.1 hw.off.2
 have d3:=z4P r.cnt hw.cnt.1 hw.cnt.2
 have q1:=z2A hw.obj.1 hw.obj.2
 have q2:=z2A hw.off.1 hw.off.2
 have q3:=z2A hw.cnt.1 hw.cnt.2
 have b1:=acc_le hn st sz hl r.k1 r.s1
 have b2:=acc_le hn st sz hl r.k2 r.s2
 have hh:=hed_le hw
 have n1:(⟨#[114,97,99,101,32]⟩ : ByteArray).size=5:=rfl
 have n2:(⟨#[46]⟩ : ByteArray).size=1:=rfl
 have n3:(⟨#[32]⟩ : ByteArray).size=1:=rfl
 have n4:(⟨#[10]⟩ : ByteArray).size=1:=rfl
 have m1:r.s1.length*1048700≤1000*1048700:=Nat.mul_le_mul_right _ h1
 have m2:r.s2.length*1048700≤1000*1048700:=Nat.mul_le_mul_right _ h2
 obtain ⟨t0,et0⟩ : ∃ z9:ByteArray,(⟨#[114,97,99,101,32]⟩ : ByteArray)++dI r.obj=z9:=⟨_,rfl⟩
 have bt0:t0.size=((⟨#[114,97,99,101,32]⟩ : ByteArray)).size+(dI r.obj).size:=by rw [← et0,ByteArray.size_append]
 have ct0:(((⟨#[114,97,99,101,32]⟩ : ByteArray)).size+(dI r.obj).size≤9223372036854775807)=True:=eq_true (by omega)
 obtain ⟨t1,et1⟩ : ∃ z9:ByteArray,t0++(⟨#[46]⟩ : ByteArray)=z9:=⟨_,rfl⟩
 have bt1:t1.size=(t0).size+((⟨#[46]⟩ : ByteArray)).size:=by rw [← et1,ByteArray.size_append]
 have ct1:((t0).size+((⟨#[46]⟩ : ByteArray)).size≤9223372036854775807)=True:=eq_true (by omega)
 obtain ⟨t2,et2⟩ : ∃ z9:ByteArray,t1++dI r.off=z9:=⟨_,rfl⟩
 have bt2:t2.size=(t1).size+(dI r.off).size:=by rw [← et2,ByteArray.size_append]
 have ct2:((t1).size+(dI r.off).size≤9223372036854775807)=True:=eq_true (by omega)
 obtain ⟨t3,et3⟩ : ∃ z9:ByteArray,t2++(⟨#[32]⟩ : ByteArray)=z9:=⟨_,rfl⟩
 have bt3:t3.size=(t2).size+((⟨#[32]⟩ : ByteArray)).size:=by rw [← et3,ByteArray.size_append]
 have ct3:((t2).size+((⟨#[32]⟩ : ByteArray)).size≤9223372036854775807)=True:=eq_true (by omega)
 obtain ⟨t4,et4⟩ : ∃ z9:ByteArray,t3++dI r.cnt=z9:=⟨_,rfl⟩
 have bt4:t4.size=(t3).size+(dI r.cnt).size:=by rw [← et4,ByteArray.size_append]
 have ct4:((t3).size+(dI r.cnt).size≤9223372036854775807)=True:=eq_true (by omega)
 obtain ⟨t5,et5⟩ : ∃ z9:ByteArray,t4++(⟨#[10]⟩ : ByteArray)=z9:=⟨_,rfl⟩
 have bt5:t5.size=(t4).size+((⟨#[10]⟩ : ByteArray)).size:=by rw [← et5,ByteArray.size_append]
 have ct5:((t4).size+((⟨#[10]⟩ : ByteArray)).size≤9223372036854775807)=True:=eq_true (by omega)
 have hhd:hedN r=t5:=by rw [hedN,et0,et1,et2,et3,et4,et5]
 obtain ⟨u0,eu0⟩ : ∃ z9:ByteArray,t5++accN fs st sz r.k1 r.s1=z9:=⟨_,rfl⟩
 have bu0:u0.size=(t5).size+(accN fs st sz r.k1 r.s1).size:=by rw [← eu0,ByteArray.size_append]
 have cu0:((t5).size+(accN fs st sz r.k1 r.s1).size≤9223372036854775807)=True:=eq_true (by omega)
 obtain ⟨u1,eu1⟩ : ∃ z9:ByteArray,u0++accN fs st sz r.k2 r.s2=z9:=⟨_,rfl⟩
 have bu1:u1.size=(u0).size+(accN fs st sz r.k2 r.s2).size:=by rw [← eu1,ByteArray.size_append]
 have cu1:((u0).size+(accN fs st sz r.k2 r.s2).size≤9223372036854775807)=True:=eq_true (by omega)
 have hres:txtN fs st sz r=u1:=by rw [txtN,hhd,eu0,eu1]
 simp only [pgA,lnA,repA,qJ,List.map_cons,List.map_nil] at ha1 ha2 ⊢
 refine zy.of Tryd.func16 rfl 40 rfl (by decide) (by simp [AV.okB]) ?_
 repeat' (first|refine T.zk fun K hK=>?_|apply T.block|(refine T.reg (by kernel_rfl) fun K' hK'=>?_;simp only [bz];(with_reducible repeat' (first|(apply WL.fin;apply hK';clear hK' K')|(refine WL.step fun K2 hK2=>?_;simp only [simprocAttr,implies_true,amz,zb,tys];repeat' (first|(apply hK2;clear hK2 K2)|apply And.intro|intro hb)))))|apply T.skip|apply T.exit|refine T.zf rfl ?_|refine T.ze rfl ?_|refine T.cond rfl (fun hc=>?_) (fun hc=>?_)|apply T.ret|simp only [za,z8,reduceIte,Nat.reduceEqDiff]|((repeat ((fail_if_success apply hK);clear hK K));apply hK;clear hK K))
 refine T.drw 15 (by kernel_rfl) (by kernel_rfl) fun K' hK'=>?_;simp only [List.map_cons,List.map_nil];(repeat' (first|(with_reducible refine WL.fin ?_;apply hK';clear hK' K')|(with_reducible refine WD.fin ?_)|((with_reducible first|refine WL.step fun K2 hK2=>?_|refine WD.step fun K2 hK2=>?_);simp only [simprocAttr,implies_true,amz,zb,tys,et0,ct0,et1,ct1,et2,ct2,et3,ct3,et4,ct4,et5,ct5];(repeat' (first|with_reducible (first|(apply hK2;clear hK2 K2)|apply And.intro|intro hb)|((with_reducible first|apply zh|apply zl);case h=>exact CallV.plain (Ent.of Tryd.func40 (by kernel_rfl) rfl) (d1) (by simp [AV.okB]))|((with_reducible first|apply zh|apply zl);case h=>exact CallV.plain (Ent.of Tryd.func40 (by kernel_rfl) rfl) (d2) (by simp [AV.okB]))|((with_reducible first|apply zh|apply zl);case h=>exact CallV.plain (Ent.of Tryd.func40 (by kernel_rfl) rfl) (d3) (by simp [AV.okB])))))));all_goals ((try simp only [za,z8,reduceIte,Nat.reduceEqDiff]);(try ((repeat ((fail_if_success apply hK);clear hK K));apply hK;clear hK K)))
 all_goals repeat' (first|refine T.zk fun K hK=>?_|apply T.block|(refine T.reg (by kernel_rfl) fun K' hK'=>?_;simp only [bz];(with_reducible repeat' (first|(apply WL.fin;apply hK';clear hK' K')|(refine WL.step fun K2 hK2=>?_;simp only [simprocAttr,implies_true,amz,zb,tys];repeat' (first|(apply hK2;clear hK2 K2)|apply And.intro|intro hb)))))|apply T.skip|apply T.exit|refine T.zf rfl ?_|refine T.ze rfl ?_|refine T.cond rfl (fun hc=>?_) (fun hc=>?_)|apply T.ret|simp only [za,z8,reduceIte,Nat.reduceEqDiff]|((repeat ((fail_if_success apply hK);clear hK K));apply hK;clear hK K))
 refine T.drw 17 (by kernel_rfl) (by kernel_rfl) fun K' hK'=>?_;simp only [List.map_cons,List.map_nil];(repeat' (first|(with_reducible refine WL.fin ?_;apply hK';clear hK' K')|(with_reducible refine WD.fin ?_)|((with_reducible first|refine WL.step fun K2 hK2=>?_|refine WD.step fun K2 hK2=>?_);simp only [simprocAttr,implies_true,amz,zb,tys,eu0,cu0,eu1,cu1];(repeat' (first|with_reducible (first|(apply hK2;clear hK2 K2)|apply And.intro|intro hb)|((with_reducible first|apply zh|apply zl);case h=>exact CallV.plain (Ent.of Tryd.func41 (by kernel_rfl) rfl) (ha1) (by simp [AV.okB]))|((with_reducible first|apply zh|apply zl);case h=>exact CallV.plain (Ent.of Tryd.func41 (by kernel_rfl) rfl) (ha2) (by simp [AV.okB])))))));all_goals ((try simp only [za,z8,reduceIte,Nat.reduceEqDiff]);(try ((repeat ((fail_if_success apply hK);clear hK K));apply hK;clear hK K)))
 all_goals repeat' (first|refine T.zk fun K hK=>?_|apply T.block|(refine T.reg (by kernel_rfl) fun K' hK'=>?_;simp only [bz];(with_reducible repeat' (first|(apply WL.fin;apply hK';clear hK' K')|(refine WL.step fun K2 hK2=>?_;simp only [simprocAttr,implies_true,amz,zb,tys];repeat' (first|(apply hK2;clear hK2 K2)|apply And.intro|intro hb)))))|apply T.skip|apply T.exit|refine T.zf rfl ?_|refine T.ze rfl ?_|refine T.cond rfl (fun hc=>?_) (fun hc=>?_)|apply T.ret|simp only [za,z8,reduceIte,Nat.reduceEqDiff]|((repeat ((fail_if_success apply hK);clear hK K));apply hK;clear hK K))
 all_goals (refine qf.ret (.inr rfl) Tryd.results16 ?_;simp only [zR,zA,zB,simprocAttr,implies_true,amz,zb,tys,hres])
end Go.Proofs.YtbkkginjfnjffaaDoor
namespace Go.Proofs.YtbkkginjfnjffaaDoor
open Go.RowKit Go.Sort Go.Maps
theorem z8j:z0v [] = []:=rfl
theorem txt_bytes (fs:List Fu) (st:List Int) (sz:Int) (r:Rep):(⟨(((hedN r).data.toList++(accN fs st sz r.k1 r.s1).data.toList)++(accN fs st sz r.k2 r.s2).data.toList).toArray⟩ : ByteArray)=txtN fs st sz r:=by
 apply z3y
 unfold txtN
 rw [z0G,z0G]
theorem z7P (z:ByteArray):z.data.toList.length=z.size:=by rw [Array.length_toList];rfl
theorem textP_mem (fs:List Fu) (g y:PV) (mn:Int) (st:List Int) (sz:Int) (r:Rep) (hn:NmOk fs) (hl:st.length≤1000000) (h1:r.s1.length≤1000) (h2:r.s2.length≤1000) (hw:RepW r) :
  MemC Tryd.prog 15 1000001 hpG [pgA fs g y mn,lnA st sz,repA r] fun hp' r'=>hp' = hpG∧r' = .p (.val (.string (txtN fs st sz r))):=by
 have i1:=z8t hw.obj.1 hw.obj.2
 have i2:=z8t hw.off.1 hw.off.2
 have i3:=z8t hw.cnt.1 hw.cnt.2
 have q1:=z2A hw.obj.1 hw.obj.2
 have q2:=z2A hw.off.1 hw.off.2
 have q3:=z2A hw.cnt.1 hw.cnt.2
 have b1:=acc_le hn st sz hl r.k1 r.s1
 have hh:=hed_le hw
 have n1:(⟨#[114,97,99,101,32]⟩ : ByteArray).size=5:=rfl
 have n2:(⟨#[46]⟩ : ByteArray).size=1:=rfl
 have n3:(⟨#[32]⟩ : ByteArray).size=1:=rfl
 have n4:(⟨#[10]⟩ : ByteArray).size=1:=rfl
 have m1:r.s1.length*1048700≤1000*1048700:=Nat.mul_le_mul_right _ h1
 obtain ⟨t0,et0⟩ : ∃ z9:ByteArray,(⟨#[114,97,99,101,32]⟩ : ByteArray)++dI r.obj=z9:=⟨_,rfl⟩
 have bt0:t0.size=((⟨#[114,97,99,101,32]⟩ : ByteArray)).size+(dI r.obj).size:=by rw [← et0,ByteArray.size_append]
 have ct0:(((⟨#[114,97,99,101,32]⟩ : ByteArray)).size+(dI r.obj).size≤9223372036854775807)=True:=eq_true (by omega)
 obtain ⟨t1,et1⟩ : ∃ z9:ByteArray,t0++(⟨#[46]⟩ : ByteArray)=z9:=⟨_,rfl⟩
 have bt1:t1.size=(t0).size+((⟨#[46]⟩ : ByteArray)).size:=by rw [← et1,ByteArray.size_append]
 have ct1:((t0).size+((⟨#[46]⟩ : ByteArray)).size≤9223372036854775807)=True:=eq_true (by omega)
 obtain ⟨t2,et2⟩ : ∃ z9:ByteArray,t1++dI r.off=z9:=⟨_,rfl⟩
 have bt2:t2.size=(t1).size+(dI r.off).size:=by rw [← et2,ByteArray.size_append]
 have ct2:((t1).size+(dI r.off).size≤9223372036854775807)=True:=eq_true (by omega)
 obtain ⟨t3,et3⟩ : ∃ z9:ByteArray,t2++(⟨#[32]⟩ : ByteArray)=z9:=⟨_,rfl⟩
 have bt3:t3.size=(t2).size+((⟨#[32]⟩ : ByteArray)).size:=by rw [← et3,ByteArray.size_append]
 have ct3:((t2).size+((⟨#[32]⟩ : ByteArray)).size≤9223372036854775807)=True:=eq_true (by omega)
 obtain ⟨t4,et4⟩ : ∃ z9:ByteArray,t3++dI r.cnt=z9:=⟨_,rfl⟩
 have bt4:t4.size=(t3).size+(dI r.cnt).size:=by rw [← et4,ByteArray.size_append]
 have ct4:((t3).size+(dI r.cnt).size≤9223372036854775807)=True:=eq_true (by omega)
 obtain ⟨t5,et5⟩ : ∃ z9:ByteArray,t4++(⟨#[10]⟩ : ByteArray)=z9:=⟨_,rfl⟩
 have bt5:t5.size=(t4).size+((⟨#[10]⟩ : ByteArray)).size:=by rw [← et5,ByteArray.size_append]
 have ct5:((t4).size+((⟨#[10]⟩ : ByteArray)).size≤9223372036854775807)=True:=eq_true (by omega)
 have hhd:hedN r=t5:=by rw [hedN,et0,et1,et2,et3,et4,et5]
 have hfin:=txt_bytes fs st sz r
 have hlh:=z7P (hedN r)
 have hla:=z7P (accN fs st sz r.k1 r.s1)
 have hne:(((hedN r).data.toList++(accN fs st sz r.k1 r.s1).data.toList)++(accN fs st sz r.k2 r.s2).data.toList) ≠ []:=by
  intro h
  have h3:=congrArg List.length h
  rw [List.length_append,List.length_append,hlh,hhd] at h3
  simp only [List.length_nil] at h3
  omega
 simp only [pgA,lnA,repA,qJ,hpG,List.map_cons,List.map_nil]
 refine MemC.of Tryd.func15 rfl 43 rfl (by decide) ?_;simp only [qK,frOf]
 repeat' (first|refine T.zk fun K hK=>?_|apply T.block|apply T.skip|apply T.exit|refine T.zf rfl ?_|refine T.ze rfl ?_|refine T.cond rfl (fun hc=>?_) (fun hc=>?_)|apply T.ret|simp only [za,z8,reduceIte,Nat.reduceEqDiff]|((repeat ((fail_if_success apply hK);clear hK K));apply hK;clear hK K))
 (refine T.reg (by kernel_rfl) fun K' hK'=>?_;simp only [bz];(with_reducible repeat' (first|(apply WL.fin;apply hK';clear hK' K')|(refine WL.step fun K2 hK2=>?_;simp only [simprocAttr,implies_true,amz,zb,tys];repeat' (first|(apply hK2;clear hK2 K2)|apply And.intro|intro hb))));all_goals ((try simp only [za,z8,reduceIte,Nat.reduceEqDiff]);(try ((repeat ((fail_if_success apply hK);clear hK K));apply hK;clear hK K))))
 repeat' (first|refine T.zk fun K hK=>?_|apply T.block|apply T.skip|apply T.exit|refine T.zf rfl ?_|refine T.ze rfl ?_|refine T.cond rfl (fun hc=>?_) (fun hc=>?_)|apply T.ret|simp only [za,z8,reduceIte,Nat.reduceEqDiff]|((repeat ((fail_if_success apply hK);clear hK K));apply hK;clear hK K))
 (refine T.reg (by kernel_rfl) fun K' hK'=>?_;simp only [bz];(with_reducible repeat' (first|(apply WL.fin;apply hK';clear hK' K')|(refine WL.step fun K2 hK2=>?_;simp only [simprocAttr,implies_true,amz,zb,tys];repeat' (first|(apply hK2;clear hK2 K2)|apply And.intro|intro hb))));all_goals ((try simp only [za,z8,reduceIte,Nat.reduceEqDiff]);(try ((repeat ((fail_if_success apply hK);clear hK K));apply hK;clear hK K))))
 refine T.weak (zi.newrowB _ 1000004 1 5 1 _ _ _ rfl rfl) ?_;simp only [zU,List.map_cons,List.map_nil,reduceIte,Nat.reduceEqDiff,List.set_cons_succ,List.set_cons_zero,Nat.reduceAdd]
 refine T.weak (zi.ren _ 1000001 2) ?_;simp only [ASt.ren,AV.zZ,AV.zF,AV.qd,AV.qz,AV.zW,AV.zD,AV.zq,AV.qc,AV.qR,AV.zC,AV.qj,AO.qD,AO.qG,AO.qE,AO.qF,List.map_cons,List.map_nil,List.filter_cons,List.filter_nil,zm,qy,reduceIte,Nat.reduceEqDiff,Nat.reduceLT,Nat.reduceBneDiff,bne_self_eq_false,Bool.and_true,Bool.and_false,Bool.true_and,Bool.false_and,Bool.and_self,Bool.false_eq_true,ne_eq,not_false_eq_true,not_true_eq_false,and_self,and_true,true_and,and_false,renC]
 refine T.weak (zi.ren _ 1000002 4) ?_;simp only [ASt.ren,AV.zZ,AV.zF,AV.qd,AV.qz,AV.zW,AV.zD,AV.zq,AV.qc,AV.qR,AV.zC,AV.qj,AO.qD,AO.qG,AO.qE,AO.qF,List.map_cons,List.map_nil,List.filter_cons,List.filter_nil,zm,qy,reduceIte,Nat.reduceEqDiff,Nat.reduceLT,Nat.reduceBneDiff,bne_self_eq_false,Bool.and_true,Bool.and_false,Bool.true_and,Bool.false_and,Bool.and_self,Bool.false_eq_true,ne_eq,not_false_eq_true,not_true_eq_false,and_self,and_true,true_and,and_false,renC]
 refine T.weak (zi.ren _ 1000004 0) ?_;simp only [ASt.ren,AV.zZ,AV.zF,AV.qd,AV.qz,AV.zW,AV.zD,AV.zq,AV.qc,AV.qR,AV.zC,AV.qj,AO.qD,AO.qG,AO.qE,AO.qF,List.map_cons,List.map_nil,List.filter_cons,List.filter_nil,zm,qy,reduceIte,Nat.reduceEqDiff,Nat.reduceLT,Nat.reduceBneDiff,bne_self_eq_false,Bool.and_true,Bool.and_false,Bool.true_and,Bool.false_and,Bool.and_self,Bool.false_eq_true,ne_eq,not_false_eq_true,not_true_eq_false,and_self,and_true,true_and,and_false,renC]
 refine T.weak (zi.ren _ 1000005 1) ?_;simp only [ASt.ren,AV.zZ,AV.zF,AV.qd,AV.qz,AV.zW,AV.zD,AV.zq,AV.qc,AV.qR,AV.zC,AV.qj,AO.qD,AO.qG,AO.qE,AO.qF,List.map_cons,List.map_nil,List.filter_cons,List.filter_nil,zm,qy,reduceIte,Nat.reduceEqDiff,Nat.reduceLT,Nat.reduceBneDiff,bne_self_eq_false,Bool.and_true,Bool.and_false,Bool.true_and,Bool.false_and,Bool.and_self,Bool.false_eq_true,ne_eq,not_false_eq_true,not_true_eq_false,and_self,and_true,true_and,and_false,renC]
 refine T.pin 2 _ rfl fun pb=>?_;simp only [zU,AO.pin,List.map_cons,List.map_nil,reduceIte,Nat.reduceEqDiff]
 refine T.pin 4 _ rfl fun lb=>?_;simp only [zU,AO.pin,List.map_cons,List.map_nil,reduceIte,Nat.reduceEqDiff]
 refine T.pin 0 _ rfl fun q=>?_;simp only [zU,AO.pin,List.map_cons,List.map_nil,reduceIte,Nat.reduceEqDiff]
 repeat' (first|refine T.zk fun K hK=>?_|apply T.block|apply T.skip|apply T.exit|refine T.zf rfl ?_|refine T.ze rfl ?_|refine T.cond rfl (fun hc=>?_) (fun hc=>?_)|apply T.ret|simp only [za,z8,reduceIte,Nat.reduceEqDiff]|((repeat ((fail_if_success apply hK);clear hK K));apply hK;clear hK K))
 (refine T.reg (by kernel_rfl) fun K' hK'=>?_;simp only [bz];(with_reducible repeat' (first|(apply WL.fin;apply hK';clear hK' K')|(refine WL.step fun K2 hK2=>?_;simp only [simprocAttr,implies_true,amz,zb,tys];repeat' (first|(apply hK2;clear hK2 K2)|apply And.intro|intro hb))));all_goals ((try simp only [za,z8,reduceIte,Nat.reduceEqDiff]);(try ((repeat ((fail_if_success apply hK);clear hK K));apply hK;clear hK K))))
 refine T.weak (zi.ren _ 1000006 3) ?_;simp only [ASt.ren,AV.zZ,AV.zF,AV.qd,AV.qz,AV.zW,AV.zD,AV.zq,AV.qc,AV.qR,AV.zC,AV.qj,AO.qD,AO.qG,AO.qE,AO.qF,List.map_cons,List.map_nil,List.filter_cons,List.filter_nil,zm,qy,reduceIte,Nat.reduceEqDiff,Nat.reduceLT,Nat.reduceBneDiff,bne_self_eq_false,Bool.and_true,Bool.and_false,Bool.true_and,Bool.false_and,Bool.and_self,Bool.false_eq_true,ne_eq,not_false_eq_true,not_true_eq_false,and_self,and_true,true_and,and_false,renC,AV.qR,List.map_nil]
 refine T.pin 3 _ rfl fun db=>?_;simp only [zU,AO.pin,List.map_cons,List.map_nil,reduceIte,Nat.reduceEqDiff]
 have w1:=z4I q (.p (.val (.pointer none))) [] (hedN r) (.inl rfl) (by simp only [List.length_nil];omega)
 have c1:=clos_ok ⟨q,pb,db,lb,0,fs,g,y,mn,st,sz⟩ hn hl r.k1 r.s1 h1 (hedN r).data.toList (by omega)
 have c2:=clos_ok ⟨q,pb,db,lb,0,fs,g,y,mn,st,sz⟩ hn hl r.k2 r.s2 h2 ((hedN r).data.toList++(accN fs st sz r.k1 r.s1).data.toList) (by rw [List.length_append];omega)
 have w2:=stringC q (.ptr 0 0) _ hne
 rw [hfin] at w2
 simp only [hpB,hpT,z8j,List.nil_append] at w1 w2 c1 c2
 rw [hhd] at w1 c1 c2 w2
 repeat' (first|refine T.zk fun K hK=>?_|apply T.block|apply T.skip|apply T.exit|refine T.zf rfl ?_|refine T.ze rfl ?_|refine T.cond rfl (fun hc=>?_) (fun hc=>?_)|apply T.ret|simp only [za,z8,reduceIte,Nat.reduceEqDiff]|((repeat ((fail_if_success apply hK);clear hK K));apply hK;clear hK K))
 refine T.drw 18 (by kernel_rfl) (by kernel_rfl) fun K' hK'=>?_;simp only [List.map_cons,List.map_nil];(repeat' (first|(with_reducible refine WL.fin ?_;apply hK';clear hK' K')|(with_reducible refine WD.fin ?_)|((with_reducible first|refine WL.step fun K2 hK2=>?_|refine WD.step fun K2 hK2=>?_);simp only [simprocAttr,implies_true,amz,zb,tys,et0,ct0,et1,ct1,et2,ct2,et3,ct3,et4,ct4,et5,ct5];(repeat' (first|with_reducible (first|(apply hK2;clear hK2 K2)|apply And.intro|intro hb)|((with_reducible refine ⟨_,CallR.read 1000001 hpG _ rfl rfl (Ent.of Tryd.func35 (by kernel_rfl) rfl) (i1) (z0t (by decide) (fun t o ho=>by obtain ⟨rfl,rfl⟩:=qo ho;simp [zm])) ?_ ?_,?_⟩);(focus (simp [AV.okB];done));(focus rfl))|((with_reducible refine ⟨_,CallR.read 1000001 hpG _ rfl rfl (Ent.of Tryd.func35 (by kernel_rfl) rfl) (i2) (z0t (by decide) (fun t o ho=>by obtain ⟨rfl,rfl⟩:=qo ho;simp [zm])) ?_ ?_,?_⟩);(focus (simp [AV.okB];done));(focus rfl))|((with_reducible refine ⟨_,CallR.read 1000001 hpG _ rfl rfl (Ent.of Tryd.func35 (by kernel_rfl) rfl) (i3) (z0t (by decide) (fun t o ho=>by obtain ⟨rfl,rfl⟩:=qo ho;simp [zm])) ?_ ?_,?_⟩);(focus (simp [AV.okB];done));(focus rfl))|((with_reducible refine qg 2 _ _ [0] (Ent.of Tryd.func36 (by kernel_rfl) rfl) (w1) ?_ ?_ ?_);(focus ((refine ⟨Nat.le_of_ble_eq_true rfl,?_,?_⟩ <;> simp only [pz,reduceIte,Nat.reduceEqDiff,AV.okB,Nat.reduceLT,zo]);done));(focus (simp [AV.okB];done));rintro hp' r ⟨rfl,rfl⟩;refine ⟨by simp [Kept,zm,AO.handle],?_⟩;simp only [cz,ASt.qh,AO.keep,Nat.reduceLeDiff,reduceIte,Nat.reduceEqDiff,z2B]))))));all_goals ((try simp only [za,z8,reduceIte,Nat.reduceEqDiff]);(try ((repeat ((fail_if_success apply hK);clear hK K));apply hK;clear hK K)))
 all_goals repeat' (first|refine T.zk fun K hK=>?_|apply T.block|(refine T.reg (by kernel_rfl) fun K' hK'=>?_;simp only [bz];(repeat' (first|(with_reducible refine WL.fin ?_;apply hK';clear hK' K')|((with_reducible refine WL.step fun K2 hK2=>?_);simp only [simprocAttr,implies_true,amz,zb,tys];(repeat' (first|with_reducible (first|(apply hK2;clear hK2 K2)|apply And.intro|intro hb)|((with_reducible refine qg 1000001 _ _ [0,2,3,4] (Ent.of Tryd.func37 (by kernel_rfl) rfl) (c1) ?_ ?_ ?_);(focus ((refine ⟨Nat.le_of_ble_eq_true rfl,?_,?_⟩ <;> simp only [pz,reduceIte,Nat.reduceEqDiff,AV.okB,Nat.reduceLT,zo,AV.qp]);done));(focus (simp [AV.okB];done));rintro hp' r' ⟨rfl,rfl⟩;refine ⟨by simp [Kept,zm,AO.handle],?_⟩;simp only [cz,ASt.qh,AO.keep,Nat.reduceLeDiff,reduceIte,Nat.reduceEqDiff,z2B,AV.qp])|((with_reducible refine qg 1000001 _ _ [0,2,3,4] (Ent.of Tryd.func37 (by kernel_rfl) rfl) (c2) ?_ ?_ ?_);(focus ((refine ⟨Nat.le_of_ble_eq_true rfl,?_,?_⟩ <;> simp only [pz,reduceIte,Nat.reduceEqDiff,AV.okB,Nat.reduceLT,zo,AV.qp]);done));(focus (simp [AV.okB];done));rintro hp' r' ⟨rfl,rfl⟩;refine ⟨by simp [Kept,zm,AO.handle],?_⟩;simp only [cz,ASt.qh,AO.keep,Nat.reduceLeDiff,reduceIte,Nat.reduceEqDiff,z2B,AV.qp])|((with_reducible refine qg 2 _ _ [] (Ent.of Tryd.func39 (by kernel_rfl) rfl) (w2) ?_ ?_ ?_);(focus ((refine ⟨Nat.le_of_ble_eq_true rfl,?_,?_⟩ <;> simp only [pz,reduceIte,Nat.reduceEqDiff,AV.okB,Nat.reduceLT,zo]);done));(focus (simp [AV.okB];done));rintro hp' r ⟨rfl,rfl⟩;refine ⟨by simp,?_⟩;simp only [cz,ASt.qh,AO.keep,Nat.reduceLeDiff,reduceIte,Nat.reduceEqDiff,z2B])))))))|apply T.skip|apply T.exit|refine T.zf rfl ?_|refine T.ze rfl ?_|refine T.cond rfl (fun hc=>?_) (fun hc=>?_)|apply T.ret|simp only [za,z8,reduceIte,Nat.reduceEqDiff]|((repeat ((fail_if_success apply hK);clear hK K));apply hK;clear hK K))
 all_goals (refine FinM.ret (s':=⟨[(6,.p (.val (.string (txtN fs st sz r))))],hpG,43,1000001⟩) (r := .p (.val (.string (txtN fs st sz r)))) (.inr rfl) Tryd.results15 (by refine zi.of' rfl ?_;simp only [wks,reduceIte,Nat.reduceEqDiff,ASt.okB,AV.okB,Nat.reduceLT,implies_true,hpG,zo]) rfl ?_ ?_;(focus (simp only [zR,zA,zB,simprocAttr,implies_true,amz,zb,tys,];done)))
 all_goals exact ⟨rfl,rfl⟩
theorem z5d (fs:List Fu) (g y:PV) (mn:Int) (st:List Int) (sz:Int) (r:Rep) (hn:NmOk fs) (hl:st.length≤1000000) (h1:r.s1.length≤1000) (h2:r.s2.length≤1000) (hw:RepW r) :
  z3Z Tryd.prog 15 1000001 hpG [pgA fs g y mn,lnA st sz,repA r] (.string (txtN fs st sz r)):=MemC.read (textP_mem fs g y mn st sz r hn hl h1 h2 hw) z0I
end Go.Proofs.YtbkkginjfnjffaaDoor
