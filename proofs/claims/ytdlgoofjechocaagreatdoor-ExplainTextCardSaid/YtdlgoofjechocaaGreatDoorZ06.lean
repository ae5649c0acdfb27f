/- Texts Sw, Sv, Vb, Vc, Sx, Sy, Sz, Sk, Sl, Pa, Pe. -/
import Derived.Laws.Strings
import Derived.Ground.NamesProg
import Derived.Shelf.Strings.OnBuilder
import Derived.Shelf.Strconv.Itoa3
import Derived.Test.YtdlgoofjechocaaGreatDoorZ05
set_option maxHeartbeats 32000000
set_option maxRecDepth 100000
set_option linter.unusedSimpArgs false
set_option linter.unusedVariables false
namespace Go.Proofs.YtdlgoofjechocaaGreatDoor
open Go.RowKit Go.Sort
def rs0:Rs:=⟨0,1,[],[],[],[],0,0,0⟩
def z9X (c:Cn):Cn := { c with sent:=IntKind.i64.wrap (c.sent+1) }
def za7 (c:Cn):Cn := { c with recv:=IntKind.i64.wrap (c.recv+1) }
def z02 (s:Rs) (e:Ev):Rs:=if e.kind==15 then setC s (z9X (qB e.obj e.n s.chans)) else if e.kind==17 then setC s (za7 (qB e.obj e.n s.chans)) else s
theorem z4i (s:Rs) (e:Ev) (hl:s.chans.length≤1000000):zx Tryz.prog 94 [rsA s,evA e] (rsA (z02 s e)):=by
 simp only [rsA,rsC,List.map_cons,List.map_nil,evA,evC]
 refine zx.of Tryz.func94 rfl 30 rfl (by decide) (by simp [AV.okB]) ?_
 repeat' (first|refine T.zh fun K hK=>?_|apply T.block|(refine T.reg (by kernel_rfl) fun K' hK'=>?_;simp only [bz];(repeat' (first|(with_reducible refine WL.fin ?_;apply hK';clear hK' K')|((with_reducible refine WL.step fun K2 hK2=>?_);simp only [simprocAttr,az,cnA,cnC,rsA,rsC];(repeat' (first|with_reducible (first|(apply hK2;clear hK2 K2)|apply And.intro|intro hb)|((with_reducible first|apply zl|apply zm);case h=>exact CallV.plain (Ent.of Tryz.func95 (by kernel_rfl) rfl) (chan_ok s e.obj e.n hl) (by simp [AV.okB]))|((with_reducible first|apply zl|apply zm);case h=>exact CallV.plain (Ent.of Tryz.func97 (by kernel_rfl) rfl) (z7W s (z9X (qB e.obj e.n s.chans)) hl) (by simp [AV.okB]))|((with_reducible first|apply zl|apply zm);case h=>exact CallV.plain (Ent.of Tryz.func97 (by kernel_rfl) rfl) (z7W s (za7 (qB e.obj e.n s.chans)) hl) (by simp [AV.okB]))))))))|apply T.skip|apply T.exit|refine T.zg rfl ?_|refine T.zf rfl ?_|refine T.cond rfl (fun hc=>?_) (fun hc=>?_)|apply T.ret|simp only [zb,za,reduceIte,Nat.reduceEqDiff]|((repeat ((fail_if_success apply hK);clear hK K));apply hK;clear hK K))
 all_goals (refine zH.ret (.inr rfl) Tryz.results94 ?_;simp only [zw,zt,zq,simprocAttr,az,];simp [z02, *])
def openB (s:Rs) (e:Ev) (nx:List Wt):Rs := { s with next:=nx,obj:=e.obj,k:=e.k,n:=e.n }
def z2I (s:Rs) (e:Ev) (nx:List Wt):Rs:=z02 (openB s e nx) e
theorem z4M (s:Rs) (e:Ev) (nx:List Wt) (hl:s.chans.length≤1000000):zx Tryz.prog 96 [rsA s,evA e,.p (.seq 3 (nx.map wtC))] (.tup [rsA (z2I s e nx),.bool true]):=by
 simp only [rsA,rsC,List.map_cons,List.map_nil,evA,evC]
 refine zx.of Tryz.func96 rfl 22 rfl (by decide) (by simp [AV.okB]) ?_
 repeat' (first|refine T.zh fun K hK=>?_|apply T.block|(refine T.reg (by kernel_rfl) fun K' hK'=>?_;simp only [bz];(with_reducible repeat' (first|(apply WL.fin;apply hK';clear hK' K')|(refine WL.step fun K2 hK2=>?_;simp only [simprocAttr,az];repeat' (first|(apply hK2;clear hK2 K2)|apply And.intro|intro hb)))))|apply T.skip|apply T.exit|refine T.zg rfl ?_|refine T.zf rfl ?_|refine T.cond rfl (fun hc=>?_) (fun hc=>?_)|apply T.ret|simp only [zb,za,reduceIte,Nat.reduceEqDiff]|((repeat ((fail_if_success apply hK);clear hK K));apply hK;clear hK K))
 refine T.comm [c0,some (0,1),some (0,1),some (0,2),some (0,2),some (0,3),some (0,3),c0,none,some (1,1),none,some (2,2),none,some (3,3),none] (by kernel_rfl) (by kernel_rfl) fun K' hK'=>?_;simp only [List.map_cons,List.map_nil,List.zip_cons_cons,List.zip_nil_left];(repeat' (first|(with_reducible refine WC.fin ?_;apply hK';clear hK' K')|((first|(with_reducible refine WC.z0Q fun K2 hK2=>?_)|(with_reducible refine WC.stepW fun K2 hK2=>?_));simp only [simprocAttr,implies_true,amz,WCg,WCv,WOw,allP,dav,Chk,List.filter_cons,List.filter_nil,bne_self_eq_false,Nat.reduceBneDiff,Bool.false_eq_true,tys];(repeat' (first|(with_reducible refine hK2 _ _ ?_;clear hK2 K2)|with_reducible (first|(apply hK2;clear hK2 K2)|apply And.intro|intro hb)|(with_reducible rfl)|((with_reducible show @Eq ASt _ _);rfl) )))));all_goals ((try simp only [zb,za,reduceIte,Nat.reduceEqDiff]);(try ((repeat ((fail_if_success apply hK);clear hK K));apply hK;clear hK K)))
 repeat' (first|refine T.zh fun K hK=>?_|apply T.block|(refine T.reg (by kernel_rfl) fun K' hK'=>?_;simp only [bz];(repeat' (first|(with_reducible refine WL.fin ?_;apply hK';clear hK' K')|((with_reducible refine WL.step fun K2 hK2=>?_);simp only [simprocAttr,az,rsA,rsC];(repeat' (first|with_reducible (first|(apply hK2;clear hK2 K2)|apply And.intro|intro hb)|((with_reducible first|apply zl|apply zm);case h=>exact CallV.plain (Ent.of Tryz.func94 (by kernel_rfl) rfl) (z4i (openB s e nx) e hl) (by simp [AV.okB]))))))))|apply T.skip|apply T.exit|refine T.zg rfl ?_|refine T.zf rfl ?_|refine T.cond rfl (fun hc=>?_) (fun hc=>?_)|apply T.ret|simp only [zb,za,reduceIte,Nat.reduceEqDiff]|((repeat ((fail_if_success apply hK);clear hK K));apply hK;clear hK K))
 all_goals (refine zH.ret (.inr rfl) Tryz.results96 ?_;simp only [zw,zt,zq,simprocAttr,az,];simp [z2I, *])
def z0i (k:Int):Bool := !(decide (k<1)||decide (20<k))
def nameL:List (List PV) := [[.val (.string ⟨#[]⟩)],[.val (.string ⟨#[114,101,97,100]⟩)],[.val (.string ⟨#[119,114,105,116,101]⟩)],[.val (.string ⟨#[97,116,111,109,105,99,45,114,101,97,100]⟩)],[.val (.string ⟨#[97,116,111,109,105,99,45,119,114,105,116,101]⟩)],[.val (.string ⟨#[97,116,111,109,105,99,45,98,111,116,104]⟩)],[.val (.string ⟨#[108,111,99,107]⟩)],[.val (.string ⟨#[117,110,108,111,99,107]⟩)],[.val (.string ⟨#[114,108,111,99,107]⟩)],[.val (.string ⟨#[114,117,110,108,111,99,107]⟩)],[.val (.string ⟨#[100,111,110,101]⟩)],[.val (.string ⟨#[119,97,105,116]⟩)],[.val (.string ⟨#[111,110,99,101,45,101,110,100]⟩)],[.val (.string ⟨#[111,110,99,101,45,115,101,101,110]⟩)],[.val (.string ⟨#[103,111]⟩)],[.val (.string ⟨#[115,101,110,100,45,115,116,97,114,116]⟩)],[.val (.string ⟨#[115,101,110,100,45,101,110,100]⟩)],[.val (.string ⟨#[114,101,99,118,45,115,116,97,114,116]⟩)],[.val (.string ⟨#[114,101,99,118,45,101,110,100]⟩)],[.val (.string ⟨#[99,108,111,115,101]⟩)],[.val (.string ⟨#[114,101,99,118,45,99,108,111,115,101,100]⟩)]]
def z1H (k:Int):ByteArray:=if z0i k=true then (match nameL[k.toNat]? with|some [.val (.string b)]=>b|_=>⟨#[]⟩) else ⟨#[]⟩
theorem z7V (k:Int):zx Tryz.prog 33 [.int k] (.p (.val (.string (z1H k)))):=by
 refine zx.of Tryz.func33 rfl 15 rfl (by decide) (by simp [AV.okB]) ?_
 by_cases hk:z0i k=true
 ·have h1:decide (k<1)=false:=by simp_all [z0i]
  have h2:decide (20<k)=false:=by simp_all [z0i]
  obtain ⟨n,rfl⟩ : ∃ n:Nat,k=n:=⟨k.toNat,by simp at h1;omega⟩
  have hn:n<21:=by simp at h2;omega
  have hx : ∃ b,nameL[n]? = some [.val (.string b)]∧z1H n=b:=by
   unfold z1H
   rw [hk]
   revert hn
   clear h1 h2 hk
   intro hn
   rcases n with _|_|_|_|_|_|_|_|_|_|_|_|_|_|_|_|_|_|_|_|_|n <;> first|exact ⟨_,rfl,rfl⟩|omega
  obtain ⟨b,hb1,hb2⟩:=hx
  rw [hb2]
  unfold nameL at hb1
  repeat' (first|refine T.zh fun K hK=>?_|apply T.block|(refine T.reg (by kernel_rfl) fun K' hK'=>?_;simp only [bz];(with_reducible repeat' (first|(apply WL.fin;apply hK';clear hK' K')|(refine WL.step fun K2 hK2=>?_;simp only [simprocAttr,az,ml_21,h1,h2,hb1,Nat.reduceDiv];repeat' (first|(apply hK2;clear hK2 K2)|apply And.intro|intro hb)))))|apply T.skip|apply T.exit|refine T.zg rfl ?_|refine T.zf rfl ?_|refine T.cond rfl (fun hc=>?_) (fun hc=>?_)|apply T.ret|simp only [zb,za,reduceIte,Nat.reduceEqDiff]|((repeat ((fail_if_success apply hK);clear hK K));apply hK;clear hK K))
  all_goals (refine zH.ret (.inr rfl) Tryz.results33 ?_;simp only [zw,zt,zq,simprocAttr,az,])
 ·have hd:(decide (k<1)||decide (20<k))=true:=by simp [z0i] at hk;simp;omega
  have hn:z1H k=⟨#[]⟩:=by simp [z1H,hk]
  rw [hn]
  repeat' (first|refine T.zh fun K hK=>?_|apply T.block|(refine T.reg (by kernel_rfl) fun K' hK'=>?_;simp only [bz];(with_reducible repeat' (first|(apply WL.fin;apply hK';clear hK' K')|(refine WL.step fun K2 hK2=>?_;simp only [simprocAttr,az,ml_21,Nat.reduceDiv];repeat' (first|(apply hK2;clear hK2 K2)|apply And.intro|intro hb)))))|apply T.skip|apply T.exit|refine T.zg rfl ?_|refine T.zf rfl ?_|refine T.cond rfl (fun hc=>?_) (fun hc=>?_)|apply T.ret|simp only [zb,za,reduceIte,Nat.reduceEqDiff]|((repeat ((fail_if_success apply hK);clear hK K));apply hK;clear hK K))
  all_goals first
   | ((refine zH.ret (.inr rfl) Tryz.results33 ?_;simp only [zw,zt,zq,simprocAttr,az,]);done)
   | (exfalso;simp_all;done)
theorem z6b (k:Int):((z1H k).toList==(ByteArray.mk #[]).toList) = !z0i k:=by
 by_cases hk:z0i k=true
 ·have h1:decide (k<1)=false:=by simp_all [z0i]
  have h2:decide (20<k)=false:=by simp_all [z0i]
  obtain ⟨n,rfl⟩ : ∃ n:Nat,k=n:=⟨k.toNat,by simp at h1;omega⟩
  have hn:n<21:=by simp at h2;omega
  have h0 : 1≤n:=by simp at h1;omega
  rw [hk]
  unfold z1H
  rw [hk]
  clear h1 h2 hk
  rcases n with _|_|_|_|_|_|_|_|_|_|_|_|_|_|_|_|_|_|_|_|_|n <;> first|(exfalso;omega)|(rw [ByteArray.toList_eq,ByteArray.toList_eq];rfl)
 ·have hn:z1H k=⟨#[]⟩:=by simp [z1H,hk]
  rw [hn]
  simp [hk]
def z1F (e:Ev):List Int := [e.obj,e.off,e.k,e.n,e.fn,e.pc,e.st]
def okF (x:Int):Bool := !(decide (x<0)||decide (2147483647<x))
def kindB (e:Ev):Bool :=
 if (e.kind==14)=true then e.obj==0&&e.off==0&&e.n==0&&decide (0<e.k)&&decide (e.k<8)
 else if (e.kind==15||e.kind==16||e.kind==17||e.kind==18)=true then e.off==0&&decide (e.n≤64)
 else if (e.kind==19||e.kind==20)=true then e.off==0&&e.k==0&&decide (e.n≤64)
 else e.k==0&&e.n==0
def z3x (e:Ev):Bool := !(decide (e.g<0)||decide (8≤e.g) || !z0i e.kind)
def qd (e:Ev):Bool:=z3x e&&((z1F e).all okF&&kindB e)
theorem z3S (e:Ev):zx Tryz.prog 31 [evA e] (.bool (qd e)):=by
 simp only [evA,evC,List.map_cons,List.map_nil]
 refine zx.of Tryz.func31 rfl 116 rfl (by decide) (by simp [AV.okB]) ?_
 by_cases hh:z3x e=true
 ·have h1:decide (e.g<0)=false:=by simp_all [z3x]
  have h2:decide (8≤e.g)=false:=by simp_all [z3x]
  have h3:z0i e.kind=true:=by simp_all [z3x]
  repeat' (first|refine T.zh fun K hK=>?_|apply T.block|(refine T.reg (by kernel_rfl) fun K' hK'=>?_;simp only [bz];(repeat' (first|(with_reducible refine WL.fin ?_;apply hK';clear hK' K')|((with_reducible refine WL.step fun K2 hK2=>?_);simp only [simprocAttr,az,ml_7,h1,h2,h3,z6b,Nat.reduceDiv];(repeat' (first|with_reducible (first|(apply hK2;clear hK2 K2)|apply And.intro|intro hb)|((with_reducible first|apply zl|apply zm);case h=>exact CallV.plain (Ent.of Tryz.func33 (by kernel_rfl) rfl) (z7V _) (by simp [AV.okB]))))))))|apply T.skip|apply T.exit|refine T.zg rfl ?_|refine T.zf rfl ?_|refine T.cond rfl (fun hc=>?_) (fun hc=>?_)|apply T.ret|simp only [zb,za,reduceIte,Nat.reduceEqDiff]|((repeat ((fail_if_success apply hK);clear hK K));apply hK;clear hK K))
  refine T.qC (fun k:Nat=>⟨[(0,evA e),(1,.ptr 0 0),(2,.bool false),(3,.p (.seq 1 ((z1F e).map fun x => [pI x]))),(4,.int k)],[(0,.box 30 ((evC e).map .p))],116,1⟩) (fun k=>k≤7∧(z1F e).all okF=((z1F e).drop k).all okF) (fun k => 7-k) 0 ⟨Nat.zero_le _,rfl⟩ (by refine zk.of' rfl ?_;simp only [wks,reduceIte,Nat.reduceEqDiff,ASt.okB,AV.okB,Nat.reduceLT,implies_true,Int.natCast_zero,evA,evC,z1F,pI,List.map_cons,List.map_nil]) ?_
  rintro k ⟨hk,hn⟩ KL hKL
  simp only [evA,evC,List.map_cons,List.map_nil]
  have hlen:(z1F e).length=7:=rfl
  by_cases hlt:k<(z1F e).length
  ·obtain ⟨x,hx⟩:=zQ hlt
   have hd:decide ((k:Int)<((z1F e).length:Int))=true:=by simpa using hlt
   rw [drop_at hx,List.all_cons] at hn
   have hcont:okF x=true → ∀ s',zk s' _→KL s':=fun h s' hw=>hKL s' (k+1) hw ⟨by omega,by rw [hn,h];rfl⟩ (by omega)
   have hbad:okF x=false→qd e=false:=fun h=>by simp [qd,hn,h]
   repeat' (first|refine T.zh fun K hK=>?_|apply T.block|(refine T.reg (by kernel_rfl) fun K' hK'=>?_;simp only [bz];(with_reducible repeat' (first|(apply WL.fin;apply hK';clear hK' K')|(refine WL.step fun K2 hK2=>?_;simp only [simprocAttr,az,hx,hd];repeat' (first|(apply hK2;clear hK2 K2)|apply And.intro|intro hb)))))|apply T.skip|apply T.exit|refine T.zg rfl ?_|refine T.zf rfl ?_|refine T.cond rfl (fun hc=>?_) (fun hc=>?_)|apply T.ret|simp only [zb,za,reduceIte,Nat.reduceEqDiff]|((repeat ((fail_if_success apply hK);clear hK K));apply hK;clear hK K))
   all_goals first
    | ((refine zH.ret (.inr rfl) Tryz.results31 ?_;simp only [zw,zt,zq,simprocAttr,az,]);rw [hbad];(focus (simp [okF, *];done)))
    | (refine hcont ?_ _ ?_;(focus (simp_all [okF];done));refine zk.of' rfl ?_;simp only [wks,reduceIte,Nat.reduceEqDiff,ASt.okB,AV.okB,Nat.reduceLT,implies_true,zu (show k<1152921504606846976 by omega),evA,evC,pI,List.map_cons,List.map_nil];done)
  ·have hd:decide ((k:Int)<((z1F e).length:Int))=false:=by simpa using hlt
   rw [z2T hlt,List.all_nil] at hn
   have hv:qd e=kindB e:=by simp [qd,hh,hn]
   rw [hv]
   repeat' (first|refine T.zh fun K hK=>?_|apply T.block|(refine T.reg (by kernel_rfl) fun K' hK'=>?_;simp only [bz];(with_reducible repeat' (first|(apply WL.fin;apply hK';clear hK' K')|(refine WL.step fun K2 hK2=>?_;simp only [simprocAttr,az,hd];repeat' (first|(apply hK2;clear hK2 K2)|apply And.intro|intro hb)))))|apply T.skip|apply T.exit|refine T.zg rfl ?_|refine T.zf rfl ?_|refine T.cond rfl (fun hc=>?_) (fun hc=>?_)|apply T.ret|simp only [zb,za,reduceIte,Nat.reduceEqDiff]|((repeat ((fail_if_success apply hK);clear hK K));apply hK;clear hK K))
   all_goals first
    | ((refine zH.ret (.inr rfl) Tryz.results31 ?_;simp only [zw,zt,zq,simprocAttr,az,]);simp [kindB, *];done)
    | (exfalso;simp_all;done)
 ·have hh' : z3x e=false:=by simpa using hh
  have hv:qd e=false:=by simp [qd,hh']
  rw [hv]
  repeat' (first|refine T.zh fun K hK=>?_|apply T.block|(refine T.reg (by kernel_rfl) fun K' hK'=>?_;simp only [bz];(repeat' (first|(with_reducible refine WL.fin ?_;apply hK';clear hK' K')|((with_reducible refine WL.step fun K2 hK2=>?_);simp only [simprocAttr,az,z6b];(repeat' (first|with_reducible (first|(apply hK2;clear hK2 K2)|apply And.intro|intro hb)|((with_reducible first|apply zl|apply zm);case h=>exact CallV.plain (Ent.of Tryz.func33 (by kernel_rfl) rfl) (z7V _) (by simp [AV.okB]))))))))|apply T.skip|apply T.exit|refine T.zg rfl ?_|refine T.zf rfl ?_|refine T.cond rfl (fun hc=>?_) (fun hc=>?_)|apply T.ret|simp only [zb,za,reduceIte,Nat.reduceEqDiff]|((repeat ((fail_if_success apply hK);clear hK K));apply hK;clear hK K))
  all_goals first
   | ((refine zH.ret (.inr rfl) Tryz.results31 ?_;simp only [zw,zt,zq,simprocAttr,az,]);done)
   | (exfalso;simp_all [z3x];done)
def dI (x:Int):ByteArray:=D10 x.toNat
theorem z1e {x:Int} (h:okF x=true):(dI x).size≤20:=D10_le _ (by simp [okF] at h;omega)
theorem z13 {x:Int} (h:okF x=true):zx Tryz.prog 32 [.int x] (.str (dI x)):=by
 simp [okF] at h
 obtain ⟨n,rfl⟩ : ∃ n:Nat,x=n:=⟨x.toNat,by omega⟩
 exact dec20_ok n (by omega)
theorem dec32_okI {x:Int} (h:okF x=true):zx Tryz.prog 15 [.int x] (.str (dI x)):=by
 simp [okF] at h
 obtain ⟨n,rfl⟩ : ∃ n:Nat,x=n:=⟨x.toNat,by omega⟩
 exact dec32_ok n (by omega)
theorem z6s (k:Int):(z1H k).size≤20:=by
 by_cases hk:z0i k=true
 ·have h1:decide (k<1)=false:=by simp_all [z0i]
  have h2:decide (20<k)=false:=by simp_all [z0i]
  obtain ⟨n,rfl⟩ : ∃ n:Nat,k=n:=⟨k.toNat,by simp at h1;omega⟩
  have hn:n<21:=by simp at h2;omega
  unfold z1H
  rw [hk]
  clear h1 h2 hk
  rcases n with _|_|_|_|_|_|_|_|_|_|_|_|_|_|_|_|_|_|_|_|_|n <;> first|(exfalso;omega)|(show _≤_;decide)
 ·have hn:z1H k=⟨#[]⟩:=by simp [z1H,hk]
  rw [hn]
  show 0≤20
  omega
def z7K (e:Ev):ByteArray:=(((((⟨#[103]⟩ : ByteArray)++(dI e.g))++(⟨#[32]⟩ : ByteArray))++(z1H e.kind))++(⟨#[32]⟩ : ByteArray))
def tObj (e:Ev) (s:ByteArray):ByteArray:=if (e.kind==14)=true then ((s++(⟨#[103]⟩ : ByteArray))++(dI e.k)) else if zT e.kind=true then (((((s++(dI e.obj))++(⟨#[32]⟩ : ByteArray))++(dI e.k))++(⟨#[47]⟩ : ByteArray))++(dI e.n)) else (((s++(dI e.obj))++(⟨#[46]⟩ : ByteArray))++(dI e.off))
def z9S (e:Ev) (s:ByteArray):ByteArray:=((((((s++(⟨#[32,64]⟩ : ByteArray))++(dI e.fn))++(⟨#[58]⟩ : ByteArray))++(dI e.pc))++(⟨#[32,35]⟩ : ByteArray))++(dI e.st))
def evT (e:Ev):ByteArray:=if qd e=true then z9S e (tObj e (z7K e)) else ⟨#[]⟩
theorem z8w {e:Ev} (h:qd e=true):okF e.g=true∧okF e.obj=true∧okF e.off=true∧okF e.k=true∧okF e.n=true∧okF e.fn=true∧okF e.pc=true∧okF e.st=true:=by
 simp only [qd,z3x,z1F,List.all_cons,List.all_nil,Bool.and_true,Bool.and_eq_true] at h
 obtain ⟨h0,⟨h1,h2,h3,h4,h5,h6,h7⟩,_⟩:=h
 refine ⟨?_,h1,h2,h3,h4,h5,h6,h7⟩
 simp at h0
 simp [okF]
 omega
theorem textR_ok (e:Ev):zx Tryz.prog 16 [evA e] (.str (evT e)):=by
 simp only [evA,evC,List.map_cons,List.map_nil]
 refine zx.of Tryz.func16 rfl 72 rfl (by decide) (by simp [AV.okB]) ?_
 have hvo:=z3S e
 simp only [evA,evC,List.map_cons,List.map_nil] at hvo
 cases hv:qd e with
 | false =>
  rw [hv] at hvo
  have hE:evT e=⟨#[]⟩:=by simp [evT,hv]
  repeat' (first|refine T.zh fun K hK=>?_|apply T.block|(refine T.reg (by kernel_rfl) fun K' hK'=>?_;simp only [bz];(repeat' (first|(with_reducible refine WL.fin ?_;apply hK';clear hK' K')|((with_reducible refine WL.step fun K2 hK2=>?_);simp only [simprocAttr,az];(repeat' (first|with_reducible (first|(apply hK2;clear hK2 K2)|apply And.intro|intro hb)|((with_reducible first|apply zl|apply zm);case h=>exact CallV.plain (Ent.of Tryz.func31 (by kernel_rfl) rfl) (hvo) (by simp [AV.okB]))))))))|apply T.skip|apply T.exit|refine T.zg rfl ?_|refine T.zf rfl ?_|refine T.cond rfl (fun hc=>?_) (fun hc=>?_)|apply T.ret|simp only [zb,za,reduceIte,Nat.reduceEqDiff]|((repeat ((fail_if_success apply hK);clear hK K));apply hK;clear hK K))
  all_goals (refine zH.ret (.inr rfl) Tryz.results16 ?_;simp only [zw,zt,zq,simprocAttr,az,hE])
 | true =>
  rw [hv] at hvo
  obtain ⟨f1,f2,f3,f4,f5,f6,f7,f8⟩:=z8w hv
  have z1:=z1e f1;have z2:=z1e f2;have z3:=z1e f3;have z4:=z1e f4;have z5:=z1e f5;have z6:=z1e f6;have z7:=z1e f7;have z8:=z1e f8
  have d1:=z13 f1;have d2:=z13 f2;have d3:=z13 f3;have d4:=z13 f4;have d5:=z13 f5;have d6:=z13 f6;have d7:=z13 f7;have d8:=z13 f8
  have zn:=z6s e.kind
  have l1:(⟨#[103]⟩ : ByteArray).size=1:=rfl
  have l2:(⟨#[32]⟩ : ByteArray).size=1:=rfl
  have l3:(⟨#[47]⟩ : ByteArray).size=1:=rfl
  have l4:(⟨#[46]⟩ : ByteArray).size=1:=rfl
  have l5:(⟨#[58]⟩ : ByteArray).size=1:=rfl
  have l6:(⟨#[32,64]⟩ : ByteArray).size=2:=rfl
  have l7:(⟨#[32,35]⟩ : ByteArray).size=2:=rfl
  obtain ⟨h0,eh0⟩ : ∃ s:ByteArray,(⟨#[103]⟩ : ByteArray)++(dI e.g)=s:=⟨_,rfl⟩
  have ch0:((⟨#[103]⟩ : ByteArray).size+(dI e.g).size≤9223372036854775807)=True:=eq_true (by omega)
  have bh0:h0.size≤30:=by rw [← eh0,ByteArray.size_append];omega
  obtain ⟨h1,eh1⟩ : ∃ s:ByteArray,h0++(⟨#[32]⟩ : ByteArray)=s:=⟨_,rfl⟩
  have ch1:(h0.size+(⟨#[32]⟩ : ByteArray).size≤9223372036854775807)=True:=eq_true (by omega)
  have bh1:h1.size≤40:=by rw [← eh1,ByteArray.size_append];omega
  obtain ⟨h2,eh2⟩ : ∃ s:ByteArray,h1++(z1H e.kind)=s:=⟨_,rfl⟩
  have ch2:(h1.size+(z1H e.kind).size≤9223372036854775807)=True:=eq_true (by omega)
  have bh2:h2.size≤60:=by rw [← eh2,ByteArray.size_append];omega
  obtain ⟨h3,eh3⟩ : ∃ s:ByteArray,h2++(⟨#[32]⟩ : ByteArray)=s:=⟨_,rfl⟩
  have ch3:(h2.size+(⟨#[32]⟩ : ByteArray).size≤9223372036854775807)=True:=eq_true (by omega)
  have bh3:h3.size≤70:=by rw [← eh3,ByteArray.size_append];omega
  repeat' (first|refine T.zh fun K hK=>?_|apply T.block|(refine T.reg (by kernel_rfl) fun K' hK'=>?_;simp only [bz];(repeat' (first|(with_reducible refine WL.fin ?_;apply hK';clear hK' K')|((with_reducible refine WL.step fun K2 hK2=>?_);simp only [simprocAttr,az];(repeat' (first|with_reducible (first|(apply hK2;clear hK2 K2)|apply And.intro|intro hb)|((with_reducible first|apply zl|apply zm);case h=>exact CallV.plain (Ent.of Tryz.func31 (by kernel_rfl) rfl) (hvo) (by simp [AV.okB]))))))))|apply T.skip|apply T.exit|refine T.zg rfl ?_|refine T.zf rfl ?_|refine T.cond rfl (fun hc=>?_) (fun hc=>?_)|apply T.ret|simp only [zb,za,reduceIte,Nat.reduceEqDiff]|((repeat ((fail_if_success apply hK);clear hK K));apply hK;clear hK K))
  refine T.drw 8 (by kernel_rfl) (by kernel_rfl) fun K' hK'=>?_;simp only [List.map_cons,List.map_nil];(repeat' (first|(with_reducible refine WL.fin ?_;apply hK';clear hK' K')|(with_reducible refine WD.fin ?_)|((with_reducible first|refine WL.step fun K2 hK2=>?_|refine WD.step fun K2 hK2=>?_);simp only [simprocAttr,az,ch0,ch1,ch2,ch3,eh0,eh1,eh2,eh3];(repeat' (first|with_reducible (first|(apply hK2;clear hK2 K2)|apply And.intro|intro hb)|((with_reducible first|apply zl|apply zm);case h=>exact CallV.plain (Ent.of Tryz.func32 (by kernel_rfl) rfl) (by assumption) (by simp [AV.okB]))|((with_reducible first|apply zl|apply zm);case h=>exact CallV.plain (Ent.of Tryz.func33 (by kernel_rfl) rfl) (z7V e.kind) (by simp [AV.okB])))))));all_goals ((try simp only [zb,za,reduceIte,Nat.reduceEqDiff]);(try ((repeat ((fail_if_success apply hK);clear hK K));apply hK;clear hK K)))
  cases hk:(e.kind==14) with
  | true =>
   obtain ⟨m0,em0⟩ : ∃ s:ByteArray,h3++(⟨#[103]⟩ : ByteArray)=s:=⟨_,rfl⟩
   have cm0:(h3.size+(⟨#[103]⟩ : ByteArray).size≤9223372036854775807)=True:=eq_true (by omega)
   have bm0:m0.size≤80:=by rw [← em0,ByteArray.size_append];omega
   obtain ⟨m1,em1⟩ : ∃ s:ByteArray,m0++(dI e.k)=s:=⟨_,rfl⟩
   have cm1:(m0.size+(dI e.k).size≤9223372036854775807)=True:=eq_true (by omega)
   have bm1:m1.size≤100:=by rw [← em1,ByteArray.size_append];omega
   obtain ⟨t0,et0⟩ : ∃ s:ByteArray,m1++(⟨#[32,64]⟩ : ByteArray)=s:=⟨_,rfl⟩
   have ct0:(m1.size+(⟨#[32,64]⟩ : ByteArray).size≤9223372036854775807)=True:=eq_true (by omega)
   have bt0:t0.size≤310:=by rw [← et0,ByteArray.size_append];omega
   obtain ⟨t1,et1⟩ : ∃ s:ByteArray,t0++(dI e.fn)=s:=⟨_,rfl⟩
   have ct1:(t0.size+(dI e.fn).size≤9223372036854775807)=True:=eq_true (by omega)
   have bt1:t1.size≤330:=by rw [← et1,ByteArray.size_append];omega
   obtain ⟨t2,et2⟩ : ∃ s:ByteArray,t1++(⟨#[58]⟩ : ByteArray)=s:=⟨_,rfl⟩
   have ct2:(t1.size+(⟨#[58]⟩ : ByteArray).size≤9223372036854775807)=True:=eq_true (by omega)
   have bt2:t2.size≤340:=by rw [← et2,ByteArray.size_append];omega
   obtain ⟨t3,et3⟩ : ∃ s:ByteArray,t2++(dI e.pc)=s:=⟨_,rfl⟩
   have ct3:(t2.size+(dI e.pc).size≤9223372036854775807)=True:=eq_true (by omega)
   have bt3:t3.size≤360:=by rw [← et3,ByteArray.size_append];omega
   obtain ⟨t4,et4⟩ : ∃ s:ByteArray,t3++(⟨#[32,35]⟩ : ByteArray)=s:=⟨_,rfl⟩
   have ct4:(t3.size+(⟨#[32,35]⟩ : ByteArray).size≤9223372036854775807)=True:=eq_true (by omega)
   have bt4:t4.size≤370:=by rw [← et4,ByteArray.size_append];omega
   obtain ⟨t5,et5⟩ : ∃ s:ByteArray,t4++(dI e.st)=s:=⟨_,rfl⟩
   have ct5:(t4.size+(dI e.st).size≤9223372036854775807)=True:=eq_true (by omega)
   have bt5:t5.size≤390:=by rw [← et5,ByteArray.size_append];omega
   have hE:evT e=t5:=by simp only [evT,z7K,tObj,z9S,hv,reduceIte,Bool.false_eq_true,hk,eh0,eh1,eh2,eh3,em0,em1,et0,et1,et2,et3,et4,et5]
   repeat' (first|refine T.zh fun K hK=>?_|apply T.block|(refine T.reg (by kernel_rfl) fun K' hK'=>?_;simp only [bz];(repeat' (first|(with_reducible refine WL.fin ?_;apply hK';clear hK' K')|((with_reducible refine WL.step fun K2 hK2=>?_);simp only [simprocAttr,az,hk,cm0,cm1,em0,em1];(repeat' (first|with_reducible (first|(apply hK2;clear hK2 K2)|apply And.intro|intro hb)|((with_reducible first|apply zl|apply zm);case h=>exact CallV.plain (Ent.of Tryz.func34 (by kernel_rfl) rfl) (z2d e.kind) (by simp [AV.okB]))|((with_reducible first|apply zl|apply zm);case h=>exact CallV.plain (Ent.of Tryz.func32 (by kernel_rfl) rfl) (by assumption) (by simp [AV.okB]))))))))|apply T.skip|apply T.exit|refine T.zg rfl ?_|refine T.zf rfl ?_|refine T.cond rfl (fun hc=>?_) (fun hc=>?_)|apply T.ret|simp only [zb,za,reduceIte,Nat.reduceEqDiff]|((repeat ((fail_if_success apply hK);clear hK K));apply hK;clear hK K))
   refine T.drw 15 (by kernel_rfl) (by kernel_rfl) fun K' hK'=>?_;simp only [List.map_cons,List.map_nil];(repeat' (first|(with_reducible refine WL.fin ?_;apply hK';clear hK' K')|(with_reducible refine WD.fin ?_)|((with_reducible first|refine WL.step fun K2 hK2=>?_|refine WD.step fun K2 hK2=>?_);simp only [simprocAttr,az,ct0,ct1,ct2,ct3,ct4,ct5,et0,et1,et2,et3,et4,et5];(repeat' (first|with_reducible (first|(apply hK2;clear hK2 K2)|apply And.intro|intro hb)|((with_reducible first|apply zl|apply zm);case h=>exact CallV.plain (Ent.of Tryz.func32 (by kernel_rfl) rfl) (by assumption) (by simp [AV.okB])))))));all_goals ((try simp only [zb,za,reduceIte,Nat.reduceEqDiff]);(try ((repeat ((fail_if_success apply hK);clear hK K));apply hK;clear hK K)))
   repeat' (first|refine T.zh fun K hK=>?_|apply T.block|(refine T.reg (by kernel_rfl) fun K' hK'=>?_;simp only [bz];(with_reducible repeat' (first|(apply WL.fin;apply hK';clear hK' K')|(refine WL.step fun K2 hK2=>?_;simp only [simprocAttr,az];repeat' (first|(apply hK2;clear hK2 K2)|apply And.intro|intro hb)))))|apply T.skip|apply T.exit|refine T.zg rfl ?_|refine T.zf rfl ?_|refine T.cond rfl (fun hc=>?_) (fun hc=>?_)|apply T.ret|simp only [zb,za,reduceIte,Nat.reduceEqDiff]|((repeat ((fail_if_success apply hK);clear hK K));apply hK;clear hK K))
   all_goals (refine zH.ret (.inr rfl) Tryz.results16 ?_;simp only [zw,zt,zq,simprocAttr,az,hE])
  | false =>
   cases hc:zT e.kind with
   | true =>
    obtain ⟨m0,em0⟩ : ∃ s:ByteArray,h3++(dI e.obj)=s:=⟨_,rfl⟩
    have cm0:(h3.size+(dI e.obj).size≤9223372036854775807)=True:=eq_true (by omega)
    have bm0:m0.size≤100:=by rw [← em0,ByteArray.size_append];omega
    obtain ⟨m1,em1⟩ : ∃ s:ByteArray,m0++(⟨#[32]⟩ : ByteArray)=s:=⟨_,rfl⟩
    have cm1:(m0.size+(⟨#[32]⟩ : ByteArray).size≤9223372036854775807)=True:=eq_true (by omega)
    have bm1:m1.size≤110:=by rw [← em1,ByteArray.size_append];omega
    obtain ⟨m2,em2⟩ : ∃ s:ByteArray,m1++(dI e.k)=s:=⟨_,rfl⟩
    have cm2:(m1.size+(dI e.k).size≤9223372036854775807)=True:=eq_true (by omega)
    have bm2:m2.size≤130:=by rw [← em2,ByteArray.size_append];omega
    obtain ⟨m3,em3⟩ : ∃ s:ByteArray,m2++(⟨#[47]⟩ : ByteArray)=s:=⟨_,rfl⟩
    have cm3:(m2.size+(⟨#[47]⟩ : ByteArray).size≤9223372036854775807)=True:=eq_true (by omega)
    have bm3:m3.size≤140:=by rw [← em3,ByteArray.size_append];omega
    obtain ⟨m4,em4⟩ : ∃ s:ByteArray,m3++(dI e.n)=s:=⟨_,rfl⟩
    have cm4:(m3.size+(dI e.n).size≤9223372036854775807)=True:=eq_true (by omega)
    have bm4:m4.size≤160:=by rw [← em4,ByteArray.size_append];omega
    obtain ⟨t0,et0⟩ : ∃ s:ByteArray,m4++(⟨#[32,64]⟩ : ByteArray)=s:=⟨_,rfl⟩
    have ct0:(m4.size+(⟨#[32,64]⟩ : ByteArray).size≤9223372036854775807)=True:=eq_true (by omega)
    have bt0:t0.size≤310:=by rw [← et0,ByteArray.size_append];omega
    obtain ⟨t1,et1⟩ : ∃ s:ByteArray,t0++(dI e.fn)=s:=⟨_,rfl⟩
    have ct1:(t0.size+(dI e.fn).size≤9223372036854775807)=True:=eq_true (by omega)
    have bt1:t1.size≤330:=by rw [← et1,ByteArray.size_append];omega
    obtain ⟨t2,et2⟩ : ∃ s:ByteArray,t1++(⟨#[58]⟩ : ByteArray)=s:=⟨_,rfl⟩
    have ct2:(t1.size+(⟨#[58]⟩ : ByteArray).size≤9223372036854775807)=True:=eq_true (by omega)
    have bt2:t2.size≤340:=by rw [← et2,ByteArray.size_append];omega
    obtain ⟨t3,et3⟩ : ∃ s:ByteArray,t2++(dI e.pc)=s:=⟨_,rfl⟩
    have ct3:(t2.size+(dI e.pc).size≤9223372036854775807)=True:=eq_true (by omega)
    have bt3:t3.size≤360:=by rw [← et3,ByteArray.size_append];omega
    obtain ⟨t4,et4⟩ : ∃ s:ByteArray,t3++(⟨#[32,35]⟩ : ByteArray)=s:=⟨_,rfl⟩
    have ct4:(t3.size+(⟨#[32,35]⟩ : ByteArray).size≤9223372036854775807)=True:=eq_true (by omega)
    have bt4:t4.size≤370:=by rw [← et4,ByteArray.size_append];omega
    obtain ⟨t5,et5⟩ : ∃ s:ByteArray,t4++(dI e.st)=s:=⟨_,rfl⟩
    have ct5:(t4.size+(dI e.st).size≤9223372036854775807)=True:=eq_true (by omega)
    have bt5:t5.size≤390:=by rw [← et5,ByteArray.size_append];omega
    have hE:evT e=t5:=by simp only [evT,z7K,tObj,z9S,hv,reduceIte,Bool.false_eq_true,hk,hc,eh0,eh1,eh2,eh3,em0,em1,em2,em3,em4,et0,et1,et2,et3,et4,et5]
    repeat' (first|refine T.zh fun K hK=>?_|apply T.block|(refine T.reg (by kernel_rfl) fun K' hK'=>?_;simp only [bz];(repeat' (first|(with_reducible refine WL.fin ?_;apply hK';clear hK' K')|((with_reducible refine WL.step fun K2 hK2=>?_);simp only [simprocAttr,az,hk,hc,cm0,cm1,cm2,cm3,cm4,em0,em1,em2,em3,em4];(repeat' (first|with_reducible (first|(apply hK2;clear hK2 K2)|apply And.intro|intro hb)|((with_reducible first|apply zl|apply zm);case h=>exact CallV.plain (Ent.of Tryz.func34 (by kernel_rfl) rfl) (z2d e.kind) (by simp [AV.okB]))|((with_reducible first|apply zl|apply zm);case h=>exact CallV.plain (Ent.of Tryz.func32 (by kernel_rfl) rfl) (by assumption) (by simp [AV.okB]))))))))|apply T.skip|apply T.exit|refine T.zg rfl ?_|refine T.zf rfl ?_|refine T.cond rfl (fun hc=>?_) (fun hc=>?_)|apply T.ret|simp only [zb,za,reduceIte,Nat.reduceEqDiff]|((repeat ((fail_if_success apply hK);clear hK K));apply hK;clear hK K))
    refine T.drw 14 (by kernel_rfl) (by kernel_rfl) fun K' hK'=>?_;simp only [List.map_cons,List.map_nil];(repeat' (first|(with_reducible refine WL.fin ?_;apply hK';clear hK' K')|(with_reducible refine WD.fin ?_)|((with_reducible first|refine WL.step fun K2 hK2=>?_|refine WD.step fun K2 hK2=>?_);simp only [simprocAttr,az,cm0,cm1,cm2,cm3,cm4,em0,em1,em2,em3,em4];(repeat' (first|with_reducible (first|(apply hK2;clear hK2 K2)|apply And.intro|intro hb)|((with_reducible first|apply zl|apply zm);case h=>exact CallV.plain (Ent.of Tryz.func32 (by kernel_rfl) rfl) (by assumption) (by simp [AV.okB])))))));all_goals ((try simp only [zb,za,reduceIte,Nat.reduceEqDiff]);(try ((repeat ((fail_if_success apply hK);clear hK K));apply hK;clear hK K)))
    repeat' (first|refine T.zh fun K hK=>?_|apply T.block|(refine T.reg (by kernel_rfl) fun K' hK'=>?_;simp only [bz];(repeat' (first|(with_reducible refine WL.fin ?_;apply hK';clear hK' K')|((with_reducible refine WL.step fun K2 hK2=>?_);simp only [simprocAttr,az,hk,hc];(repeat' (first|with_reducible (first|(apply hK2;clear hK2 K2)|apply And.intro|intro hb)|((with_reducible first|apply zl|apply zm);case h=>exact CallV.plain (Ent.of Tryz.func32 (by kernel_rfl) rfl) (by assumption) (by simp [AV.okB]))))))))|apply T.skip|apply T.exit|refine T.zg rfl ?_|refine T.zf rfl ?_|refine T.cond rfl (fun hc=>?_) (fun hc=>?_)|apply T.ret|simp only [zb,za,reduceIte,Nat.reduceEqDiff]|((repeat ((fail_if_success apply hK);clear hK K));apply hK;clear hK K))
    refine T.drw 15 (by kernel_rfl) (by kernel_rfl) fun K' hK'=>?_;simp only [List.map_cons,List.map_nil];(repeat' (first|(with_reducible refine WL.fin ?_;apply hK';clear hK' K')|(with_reducible refine WD.fin ?_)|((with_reducible first|refine WL.step fun K2 hK2=>?_|refine WD.step fun K2 hK2=>?_);simp only [simprocAttr,az,ct0,ct1,ct2,ct3,ct4,ct5,et0,et1,et2,et3,et4,et5];(repeat' (first|with_reducible (first|(apply hK2;clear hK2 K2)|apply And.intro|intro hb)|((with_reducible first|apply zl|apply zm);case h=>exact CallV.plain (Ent.of Tryz.func32 (by kernel_rfl) rfl) (by assumption) (by simp [AV.okB])))))));all_goals ((try simp only [zb,za,reduceIte,Nat.reduceEqDiff]);(try ((repeat ((fail_if_success apply hK);clear hK K));apply hK;clear hK K)))
    repeat' (first|refine T.zh fun K hK=>?_|apply T.block|(refine T.reg (by kernel_rfl) fun K' hK'=>?_;simp only [bz];(with_reducible repeat' (first|(apply WL.fin;apply hK';clear hK' K')|(refine WL.step fun K2 hK2=>?_;simp only [simprocAttr,az];repeat' (first|(apply hK2;clear hK2 K2)|apply And.intro|intro hb)))))|apply T.skip|apply T.exit|refine T.zg rfl ?_|refine T.zf rfl ?_|refine T.cond rfl (fun hc=>?_) (fun hc=>?_)|apply T.ret|simp only [zb,za,reduceIte,Nat.reduceEqDiff]|((repeat ((fail_if_success apply hK);clear hK K));apply hK;clear hK K))
    all_goals (refine zH.ret (.inr rfl) Tryz.results16 ?_;simp only [zw,zt,zq,simprocAttr,az,hE])
   | false =>
    obtain ⟨m0,em0⟩ : ∃ s:ByteArray,h3++(dI e.obj)=s:=⟨_,rfl⟩
    have cm0:(h3.size+(dI e.obj).size≤9223372036854775807)=True:=eq_true (by omega)
    have bm0:m0.size≤100:=by rw [← em0,ByteArray.size_append];omega
    obtain ⟨m1,em1⟩ : ∃ s:ByteArray,m0++(⟨#[46]⟩ : ByteArray)=s:=⟨_,rfl⟩
    have cm1:(m0.size+(⟨#[46]⟩ : ByteArray).size≤9223372036854775807)=True:=eq_true (by omega)
    have bm1:m1.size≤110:=by rw [← em1,ByteArray.size_append];omega
    obtain ⟨m2,em2⟩ : ∃ s:ByteArray,m1++(dI e.off)=s:=⟨_,rfl⟩
    have cm2:(m1.size+(dI e.off).size≤9223372036854775807)=True:=eq_true (by omega)
    have bm2:m2.size≤130:=by rw [← em2,ByteArray.size_append];omega
    obtain ⟨t0,et0⟩ : ∃ s:ByteArray,m2++(⟨#[32,64]⟩ : ByteArray)=s:=⟨_,rfl⟩
    have ct0:(m2.size+(⟨#[32,64]⟩ : ByteArray).size≤9223372036854775807)=True:=eq_true (by omega)
    have bt0:t0.size≤310:=by rw [← et0,ByteArray.size_append];omega
    obtain ⟨t1,et1⟩ : ∃ s:ByteArray,t0++(dI e.fn)=s:=⟨_,rfl⟩
    have ct1:(t0.size+(dI e.fn).size≤9223372036854775807)=True:=eq_true (by omega)
    have bt1:t1.size≤330:=by rw [← et1,ByteArray.size_append];omega
    obtain ⟨t2,et2⟩ : ∃ s:ByteArray,t1++(⟨#[58]⟩ : ByteArray)=s:=⟨_,rfl⟩
    have ct2:(t1.size+(⟨#[58]⟩ : ByteArray).size≤9223372036854775807)=True:=eq_true (by omega)
    have bt2:t2.size≤340:=by rw [← et2,ByteArray.size_append];omega
    obtain ⟨t3,et3⟩ : ∃ s:ByteArray,t2++(dI e.pc)=s:=⟨_,rfl⟩
    have ct3:(t2.size+(dI e.pc).size≤9223372036854775807)=True:=eq_true (by omega)
    have bt3:t3.size≤360:=by rw [← et3,ByteArray.size_append];omega
    obtain ⟨t4,et4⟩ : ∃ s:ByteArray,t3++(⟨#[32,35]⟩ : ByteArray)=s:=⟨_,rfl⟩
    have ct4:(t3.size+(⟨#[32,35]⟩ : ByteArray).size≤9223372036854775807)=True:=eq_true (by omega)
    have bt4:t4.size≤370:=by rw [← et4,ByteArray.size_append];omega
    obtain ⟨t5,et5⟩ : ∃ s:ByteArray,t4++(dI e.st)=s:=⟨_,rfl⟩
    have ct5:(t4.size+(dI e.st).size≤9223372036854775807)=True:=eq_true (by omega)
    have bt5:t5.size≤390:=by rw [← et5,ByteArray.size_append];omega
    have hE:evT e=t5:=by simp only [evT,z7K,tObj,z9S,hv,reduceIte,Bool.false_eq_true,hk,hc,eh0,eh1,eh2,eh3,em0,em1,em2,et0,et1,et2,et3,et4,et5]
    repeat' (first|refine T.zh fun K hK=>?_|apply T.block|(refine T.reg (by kernel_rfl) fun K' hK'=>?_;simp only [bz];(repeat' (first|(with_reducible refine WL.fin ?_;apply hK';clear hK' K')|((with_reducible refine WL.step fun K2 hK2=>?_);simp only [simprocAttr,az,hk,hc,cm0,cm1,cm2,em0,em1,em2];(repeat' (first|with_reducible (first|(apply hK2;clear hK2 K2)|apply And.intro|intro hb)|((with_reducible first|apply zl|apply zm);case h=>exact CallV.plain (Ent.of Tryz.func34 (by kernel_rfl) rfl) (z2d e.kind) (by simp [AV.okB]))|((with_reducible first|apply zl|apply zm);case h=>exact CallV.plain (Ent.of Tryz.func32 (by kernel_rfl) rfl) (by assumption) (by simp [AV.okB]))))))))|apply T.skip|apply T.exit|refine T.zg rfl ?_|refine T.zf rfl ?_|refine T.cond rfl (fun hc=>?_) (fun hc=>?_)|apply T.ret|simp only [zb,za,reduceIte,Nat.reduceEqDiff]|((repeat ((fail_if_success apply hK);clear hK K));apply hK;clear hK K))
    refine T.drw 9 (by kernel_rfl) (by kernel_rfl) fun K' hK'=>?_;simp only [List.map_cons,List.map_nil];(repeat' (first|(with_reducible refine WL.fin ?_;apply hK';clear hK' K')|(with_reducible refine WD.fin ?_)|((with_reducible first|refine WL.step fun K2 hK2=>?_|refine WD.step fun K2 hK2=>?_);simp only [simprocAttr,az,cm0,cm1,cm2,em0,em1,em2];(repeat' (first|with_reducible (first|(apply hK2;clear hK2 K2)|apply And.intro|intro hb)|((with_reducible first|apply zl|apply zm);case h=>exact CallV.plain (Ent.of Tryz.func32 (by kernel_rfl) rfl) (by assumption) (by simp [AV.okB])))))));all_goals ((try simp only [zb,za,reduceIte,Nat.reduceEqDiff]);(try ((repeat ((fail_if_success apply hK);clear hK K));apply hK;clear hK K)))
    repeat' (first|refine T.zh fun K hK=>?_|apply T.block|(refine T.reg (by kernel_rfl) fun K' hK'=>?_;simp only [bz];(repeat' (first|(with_reducible refine WL.fin ?_;apply hK';clear hK' K')|((with_reducible refine WL.step fun K2 hK2=>?_);simp only [simprocAttr,az,hk,hc];(repeat' (first|with_reducible (first|(apply hK2;clear hK2 K2)|apply And.intro|intro hb)|((with_reducible first|apply zl|apply zm);case h=>exact CallV.plain (Ent.of Tryz.func32 (by kernel_rfl) rfl) (by assumption) (by simp [AV.okB]))))))))|apply T.skip|apply T.exit|refine T.zg rfl ?_|refine T.zf rfl ?_|refine T.cond rfl (fun hc=>?_) (fun hc=>?_)|apply T.ret|simp only [zb,za,reduceIte,Nat.reduceEqDiff]|((repeat ((fail_if_success apply hK);clear hK K));apply hK;clear hK K))
    refine T.drw 15 (by kernel_rfl) (by kernel_rfl) fun K' hK'=>?_;simp only [List.map_cons,List.map_nil];(repeat' (first|(with_reducible refine WL.fin ?_;apply hK';clear hK' K')|(with_reducible refine WD.fin ?_)|((with_reducible first|refine WL.step fun K2 hK2=>?_|refine WD.step fun K2 hK2=>?_);simp only [simprocAttr,az,ct0,ct1,ct2,ct3,ct4,ct5,et0,et1,et2,et3,et4,et5];(repeat' (first|with_reducible (first|(apply hK2;clear hK2 K2)|apply And.intro|intro hb)|((with_reducible first|apply zl|apply zm);case h=>exact CallV.plain (Ent.of Tryz.func32 (by kernel_rfl) rfl) (by assumption) (by simp [AV.okB])))))));all_goals ((try simp only [zb,za,reduceIte,Nat.reduceEqDiff]);(try ((repeat ((fail_if_success apply hK);clear hK K));apply hK;clear hK K)))
    repeat' (first|refine T.zh fun K hK=>?_|apply T.block|(refine T.reg (by kernel_rfl) fun K' hK'=>?_;simp only [bz];(with_reducible repeat' (first|(apply WL.fin;apply hK';clear hK' K')|(refine WL.step fun K2 hK2=>?_;simp only [simprocAttr,az];repeat' (first|(apply hK2;clear hK2 K2)|apply And.intro|intro hb)))))|apply T.skip|apply T.exit|refine T.zg rfl ?_|refine T.zf rfl ?_|refine T.cond rfl (fun hc=>?_) (fun hc=>?_)|apply T.ret|simp only [zb,za,reduceIte,Nat.reduceEqDiff]|((repeat ((fail_if_success apply hK);clear hK K));apply hK;clear hK K))
    all_goals (refine zH.ret (.inr rfl) Tryz.results16 ?_;simp only [zw,zt,zq,simprocAttr,az,hE])
end Go.Proofs.YtdlgoofjechocaaGreatDoor
namespace Go.Proofs
open Go.Shelf Go.RowKit
def YtdlgoofjechocaaGreatDoor.itoaL_ren:Go.Shelf.Ren:=⟨fun | 171 => 11 | 243 => 24 | 246 => 38 | 283 => 52 | 284 => 53 | 285 => 54 | 286 => 55 | 129 => 64 | 317 => 63 | 318 => 65 | 319 => 66 | 320 => 67 | 337 => 81 | 338 => 82|n=>n,fun | 3 => 3 | 9 => 9 | 2 => 2 | 4 => 4 | 171 => 82 | 0 => 0 | 53 => 61 | 37 => 36 | 5 => 5 | 173 => 85 | 212 => 101 | 51 => 102 | 20 => 20 | 213 => 103 | 46 => 98 | 232 => 132 | 233 => 133|n=>n,fun | 17 => 1 | 18 => 3 | 19 => 4|n=>n⟩
theorem YtdlgoofjechocaaGreatDoor.itoaL:Go.Proofs.LaysM.n171 Tryz.prog YtdlgoofjechocaaGreatDoor.itoaL_ren := {
 mixed:=by kernel_rfl
 f129:=Tryz.func64.trans (congrArg some (by kernel_rfl))
 f171:=Tryz.func11.trans (congrArg some (by kernel_rfl))
 f243:=Tryz.func24.trans (congrArg some (by kernel_rfl))
 f246:=Tryz.func38.trans (congrArg some (by kernel_rfl))
 f283:=Tryz.func52.trans (congrArg some (by kernel_rfl))
 f284:=Tryz.func53.trans (congrArg some (by kernel_rfl))
 f285:=Tryz.func54.trans (congrArg some (by kernel_rfl))
 f286:=Tryz.func55.trans (congrArg some (by kernel_rfl))
 f317:=Tryz.func63.trans (congrArg some (by kernel_rfl))
 f318:=Tryz.func65.trans (congrArg some (by kernel_rfl))
 f319:=Tryz.func66.trans (congrArg some (by kernel_rfl))
 f320:=Tryz.func67.trans (congrArg some (by kernel_rfl))
 f337:=Tryz.func81.trans (congrArg some (by kernel_rfl))
 f338:=Tryz.func82.trans (congrArg some (by kernel_rfl))
 t0:=Tryz.underlying0
 a0:=Tryz.isAgg0
 z0:=Tryz.sizeOf0
 v0:=Tryz.zeroValue0
 t2:=Tryz.underlying2
 a2:=Tryz.isAgg2
 z2:=Tryz.sizeOf2
 v2:=Tryz.zeroValue2
 t3:=Tryz.underlying3
 a3:=Tryz.isAgg3
 z3:=Tryz.sizeOf3
 v3:=Tryz.zeroValue3
 t4:=Tryz.underlying4
 a4:=Tryz.isAgg4
 z4:=Tryz.sizeOf4
 v4:=Tryz.zeroValue4
 t5:=Tryz.underlying5
 a5:=Tryz.isAgg5
 z5:=Tryz.sizeOf5
 v5:=Tryz.zeroValue5
 t9:=Tryz.underlying9
 a9:=Tryz.isAgg9
 z9:=Tryz.sizeOf9
 v9:=Tryz.zeroValue9
 t20:=Tryz.underlying20
 a20:=Tryz.isAgg20
 z20:=Tryz.sizeOf20
 v20:=Tryz.zeroValue20
 t37:=Tryz.underlying36
 a37:=Tryz.isAgg36
 z37:=Tryz.sizeOf36
 v37:=Tryz.zeroValue36
 t46:=Tryz.underlying98
 a46:=Tryz.isAgg98
 z46:=Tryz.sizeOf98
 v46:=Tryz.zeroValue98
 t51:=Tryz.underlying102
 a51:=Tryz.isAgg102
 z51:=Tryz.sizeOf102
 v51:=Tryz.zeroValue102
 t53:=Tryz.underlying61
 a53:=Tryz.isAgg61
 z53:=Tryz.sizeOf61
 v53:=Tryz.zeroValue61
 t171:=Tryz.underlying82
 a171:=Tryz.isAgg82
 z171:=Tryz.sizeOf82
 v171:=Tryz.zeroValue82
 t173:=Tryz.underlying85
 a173:=Tryz.isAgg85
 z173:=Tryz.sizeOf85
 v173:=Tryz.zeroValue85
 t212:=Tryz.underlying101
 a212:=Tryz.isAgg101
 z212:=Tryz.sizeOf101
 v212:=Tryz.zeroValue101
 t213:=Tryz.underlying103
 a213:=Tryz.isAgg103
 z213:=Tryz.sizeOf103
 t232:=Tryz.underlying132
 a232:=Tryz.isAgg132
 z232:=Tryz.sizeOf132
 v232:=Tryz.zeroValue132
 t233:=Tryz.underlying133
 a233:=Tryz.isAgg133
 z233:=Tryz.sizeOf133
 v233:=Tryz.zeroValue133
 g17:=by kernel_rfl
 g18:=by kernel_rfl
 g19:=by kernel_rfl
 i0:=by kernel_rfl
 i2:=by kernel_rfl
 i3:=by kernel_rfl
 i4:=by kernel_rfl
 i5:=by kernel_rfl
 i9:=by kernel_rfl
 i20:=by kernel_rfl
 i37:=by kernel_rfl
 i46:=by kernel_rfl
 i51:=by kernel_rfl
 i53:=by kernel_rfl
 i171:=by kernel_rfl
 i173:=by kernel_rfl
 i212:=by kernel_rfl
 i232:=by kernel_rfl
 i233:=by kernel_rfl
 m17:=by kernel_rfl
 m18:=by kernel_rfl
 m19:=by kernel_rfl }
def YtdlgoofjechocaaGreatDoor.z7f:Go.Shelf.Ren:=⟨fun | 156 => 27 | 165 => 41 | 166 => 10 | 169 => 13 | 240 => 23 | 241 => 56 | 276 => 37 | 277 => 68|n=>n,fun | 31 => 58 | 9 => 9 | 3 => 3 | 4 => 4 | 0 => 0 | 20 => 20 | 72 => 38 | 76 => 41 | 70 => 35 | 37 => 36 | 75 => 40 | 127 => 59 | 164 => 68 | 5 => 5 | 80 => 45|n=>n,fun|n=>n⟩
theorem YtdlgoofjechocaaGreatDoor.joinL:Go.Proofs.Lays.n156 Tryz.prog YtdlgoofjechocaaGreatDoor.z7f := {
 mixed:=by kernel_rfl
 f156:=Tryz.func27.trans (congrArg some (by kernel_rfl))
 f165:=Tryz.func41.trans (congrArg some (by kernel_rfl))
 f166:=Tryz.func10.trans (congrArg some (by kernel_rfl))
 f169:=Tryz.func13.trans (congrArg some (by kernel_rfl))
 f240:=Tryz.func23.trans (congrArg some (by kernel_rfl))
 f241:=Tryz.func56.trans (congrArg some (by kernel_rfl))
 f276:=Tryz.func37.trans (congrArg some (by kernel_rfl))
 f277:=Tryz.func68.trans (congrArg some (by kernel_rfl))
 t0:=Tryz.underlying0
 a0:=Tryz.isAgg0
 z0:=Tryz.sizeOf0
 v0:=Tryz.zeroValue0
 t3:=Tryz.underlying3
 a3:=Tryz.isAgg3
 z3:=Tryz.sizeOf3
 v3:=Tryz.zeroValue3
 t4:=Tryz.underlying4
 a4:=Tryz.isAgg4
 z4:=Tryz.sizeOf4
 v4:=Tryz.zeroValue4
 t9:=Tryz.underlying9
 a9:=Tryz.isAgg9
 z9:=Tryz.sizeOf9
 v9:=Tryz.zeroValue9
 t20:=Tryz.underlying20
 a20:=Tryz.isAgg20
 z20:=Tryz.sizeOf20
 v20:=Tryz.zeroValue20
 t31:=Tryz.underlying58
 a31:=Tryz.isAgg58
 z31:=Tryz.sizeOf58
 v31:=Tryz.zeroValue58
 t37:=Tryz.underlying36
 a37:=Tryz.isAgg36
 z37:=Tryz.sizeOf36
 v37:=Tryz.zeroValue36
 t70:=Tryz.underlying35
 a70:=Tryz.isAgg35
 z70:=Tryz.sizeOf35
 v70:=Tryz.zeroValue35
 t72:=Tryz.underlying38
 a72:=Tryz.isAgg38
 z72:=Tryz.sizeOf38
 v72:=Tryz.zeroValue38
 t75:=Tryz.underlying40
 a75:=Tryz.isAgg40
 z75:=Tryz.sizeOf40
 v75:=Tryz.zeroValue40
 t76:=Tryz.underlying41
 a76:=Tryz.isAgg41
 z76:=Tryz.sizeOf41
 v76:=Tryz.zeroValue41
 t127:=Tryz.underlying59
 a127:=Tryz.isAgg59
 z127:=Tryz.sizeOf59
 v127:=Tryz.zeroValue59
 t164:=Tryz.underlying68
 a164:=Tryz.isAgg68
 z164:=Tryz.sizeOf68
 v164:=Tryz.zeroValue68 }
end Go.Proofs
namespace Go.Proofs.YtdlgoofjechocaaGreatDoor
open Go.RowKit Go.Sort Go.Shelf
theorem joinX:Builder.Extra Tryz.prog z7f where
 sizeBuilder:=by kernel_rfl
 liesBuilder:=by kernel_rfl
 t5:=itoaL.t5
 a5:=itoaL.a5
 z5:=itoaL.z5
 v5:=itoaL.v5
 infoByte:=by kernel_rfl
 cellsByte:=by kernel_rfl
 sizeByte:=by kernel_rfl
 neB5:=by decide
def z0y (l:List Value):List AV:=l.map fun v => .p (.val v)
def z2z:List Value := [#[],#[114,101,97,100],#[119,114,105,116,101],#[97,116,111,109,105,99,45,114,101,97,100],#[97,116,111,109,105,99,45,119,114,105,116,101],#[97,116,111,109,105,99,45,98,111,116,104],#[108,111,99,107],#[117,110,108,111,99,107],#[114,108,111,99,107],#[114,117,110,108,111,99,107],#[100,111,110,101],#[119,97,105,116],#[111,110,99,101,45,101,110,100],#[111,110,99,101,45,115,101,101,110],#[103,111],#[115,101,110,100,45,115,116,97,114,116],#[115,101,110,100,45,101,110,100],#[114,101,99,118,45,115,116,97,114,116],#[114,101,99,118,45,101,110,100],#[99,108,111,115,101],#[114,101,99,118,45,99,108,111,115,101,100]].map fun a => .string ⟨a⟩
def z6R:List Value:=Go.Lib.pow10Tab.map fun z => .int .u64 z
def hpG:Hp := [(1000000,.boxP (some 0) 57 (z0y z2z)),(1000001,.boxP (some 1) 101 (z0y z6R))]
theorem z3B:Plain hpG:=fun t o h=>by
 unfold hpG at h
 rw [zy,zy,qP] at h
 split at h
 ·cases h;exact ⟨_,_,_,rfl⟩
 ·split at h
  ·cases h;exact ⟨_,_,_,rfl⟩
  ·cases h
theorem z8n {L:Nat→Prop} {N:Nat} {hp:Hp} {loc:Nat→Option Value} {w:World} (h:HRel L N hp loc w) {t g:Nat} {ty:TypeId} {us:List Value} (ho:hp.lookup t=some (.boxP (some g) ty (z0y us))):w.heap[g]? = some (.cells us.toArray ty (0,0)):=by
 obtain ⟨_,u,_,b,arr,rfl,g2,g3,g4,_,g5⟩:=h.at' t _ ho
 obtain rfl:=g5 g rfl
 rw [g2]
 have:arr=us.toArray:=by
  apply Array.ext
  ·rw [g3];simp [z0y]
  ·intro j j1 j2
   have hj:j<us.length:=by simpa using j2
   have e1:=(g4 j (.p (.val us[j])) (by simp [z0y,hj])).val
   rw [Array.getD_eq_getD_getElem?,Array.getElem?_eq_getElem j1] at e1
   simp only [Option.getD_some] at e1
   rw [e1]
   simp
 rw [this]
theorem grow_blw (w:World) (k:Nat) (os:Array Obj):Blw w.heap.size w (grow (w.drewN k) os) :=
 ⟨⟨rfl,rfl,rfl,by simp [grow,World.drewN],fun j hj=>by simp [grow,World.drewN,Array.getElem?_append,hj]⟩⟩
theorem itoaC {x : Int} (h0 : 0 ≤ x) (h1 : x ≤ 9223372036854775807) : z3z Tryz.prog 11 1000002 hpG [.int x] (.string (D10 x.toNat)) := fun L loc w vs hh hvs => by
  obtain ⟨v, rfl⟩ : ∃ v, vs = [v] := by
    match vs, hvs.1 with
    | [v], _ => exact ⟨v, rfl⟩
  obtain rfl := (hvs.2 0 _ v rfl rfl).val
  have htab : Go.Lib.TabIs Tryz.prog w "internal/strconv.uint64pow10" .u64 Go.Lib.pow10Tab := by
    unfold Go.Lib.TabIs World.var?
    rw [show Tryz.prog.globalNamed "internal/strconv.uint64pow10" = some 1 by kernel_rfl]
    simp only [Option.bind_some]
    rw [z8n hh (t := 1000001) (g := 1) rfl]
    rfl
  refine Calls.mono (Any.strconv_Itoa itoaL x (by omega) h1 w htab) ?_
  rintro e w' ⟨rfl, k, os, rfl⟩
  refine ⟨?_, grow_blw w k os⟩
  have : Go.Lib.itoa x = Go.Lib.decDigits x.toNat := by unfold Go.Lib.itoa; rw [if_neg (by omega)]
  rw [this]
  rfl
theorem joinC (a b c d e sp:ByteArray) (hl:a.size+b.size+c.size+d.size+e.size+4*sp.size≤1000000) :
  zx Tryz.prog 27 [.p (.seq 1 [[.val (.string a)],[.val (.string b)],[.val (.string c)],[.val (.string d)],[.val (.string e)]]),.str sp] (.str ((((((((a++sp)++b)++sp)++c)++sp)++d)++sp)++e)):=fun L w vs hL hvs=>by
 obtain ⟨v0,v1,rfl⟩ : ∃ v0 v1,vs = [v0,v1]:=by
  match vs,hvs.1 with
  | [v0,v1],_=>exact ⟨v0,v1,rfl⟩
 obtain rfl:=(hvs.2 1 _ v1 rfl rfl).val
 have h0:=hvs.2 0 _ v0 rfl rfl
 cases h0 with
 | p _ _ hp =>
 cases hp with
 | seq _ bk off cap _ f hb hnD hcap hmax hn hc hr =>
 have hcell : ∀ (j:Nat) x,[a,b,c,d,e][j]? = some x→w.cell? ⟨bk,off+j,none⟩=some (.string x):=fun j x hx=>by
  have h2:([[PV.val (.string a)],[.val (.string b)],[.val (.string c)],[.val (.string d)],[.val (.string e)]] : List (List PV))[j]? = some [.val (.string x)]:=by
   match j,hx with
   | 0,hx=>cases hx;rfl
   | 1,hx=>cases hx;rfl
   | 2,hx=>cases hx;rfl
   | 3,hx=>cases hx;rfl
   | 4,hx=>cases hx;rfl
  have h3:=hc j _ 0 _ h2 rfl
  have h4:=(AR.p (N := 0) (loc:=z1Z) _ _ (hr j _ 0 _ h2 rfl)).val
  rw [h4] at h3
  rw [Nat.mul_one,Nat.add_zero] at h3
  exact h3
 have hj:Go.Lib.join ([a,b,c,d,e].map (·.data.toList)) sp.data.toList=((((((((a++sp)++b)++sp)++c)++sp)++d)++sp)++e).data.toList:=by
  simp only [z1P,List.map_cons,List.map_nil,Go.Lib.join]
  simp [List.append_assoc]
 have hsz : ∀ z:ByteArray,z.data.toList.length=z.size:=fun z=>by rw [Array.length_toList];rfl
 refine Calls.mono (Any.strings_Join joinL joinX bk off cap [a,b,c,d,e] sp w hcell hb (by simp) hcap (by rw [hj,hsz];simp only [ByteArray.size_append];omega)) ?_
 rintro ee w' ⟨rfl,hw⟩
 refine ⟨_,rfl,⟨hw⟩,?_⟩
 rw [hj]
 exact .zV _ rfl
end Go.Proofs.YtdlgoofjechocaaGreatDoor
namespace Go.Proofs.YtdlgoofjechocaaGreatDoor
open Go.RowKit Go.Sort
def z2J (s:Rs) (e:Ev):Rs × Bool :=
 if ((qB e.obj e.n s.chans).n != e.n)=true then (s,false)
 else if (e.kind==15)=true then
  if (e.k != (qB e.obj e.n s.chans).sent||(qB e.obj e.n s.chans).closed)=true then (s,false)
  else if (decide (0<(qB e.obj e.n s.chans).n)&&decide (IntKind.i64.wrap ((qB e.obj e.n s.chans).sent-(qB e.obj e.n s.chans).recv)<(qB e.obj e.n s.chans).n))=true then (z2I s e [⟨16,e.g,0⟩],true)
  else if ((qB e.obj e.n s.chans).n==0&&decide (1<s.gor))=true then (z2I s e [⟨17,-1,e.g⟩,⟨18,-1,0⟩,⟨16,e.g,0⟩],true)
  else (s,false)
 else if (e.kind==17)=true then
  if (e.k != (qB e.obj e.n s.chans).recv)=true then (s,false)
  else if decide ((qB e.obj e.n s.chans).recv<(qB e.obj e.n s.chans).sent)=true then (z2I s e [⟨18,e.g,0⟩],true)
  else if (!(qB e.obj e.n s.chans).closed&&decide (1<s.gor))=true then (z2I s e [⟨15,-1,e.g⟩,⟨18,e.g,0⟩,⟨16,-1,0⟩],true)
  else (s,false)
 else if (e.kind==19)=true then
  if (!(qB e.obj e.n s.chans).closed)=true then (setC s { qB e.obj e.n s.chans with closed:=true },true) else (s,false)
 else if (e.kind==20)=true then (s,(qB e.obj e.n s.chans).closed&&(qB e.obj e.n s.chans).sent==(qB e.obj e.n s.chans).recv)
 else (s,false)
theorem trans_ok (s:Rs) (e:Ev) (hl:s.chans.length≤1000000):zx Tryz.prog 84 [rsA s,evA e] (.tup [rsA (z2J s e).1,.bool (z2J s e).2]):=by
 simp only [rsA,rsC,List.map_cons,List.map_nil,evA,evC]
 refine zx.of Tryz.func84 rfl 141 rfl (by decide) (by simp [AV.okB]) ?_
 repeat' (first|refine T.zh fun K hK=>?_|apply T.block|(refine T.reg (by kernel_rfl) fun K' hK'=>?_;simp only [bz];(repeat' (first|(with_reducible refine WL.fin ?_;apply hK';clear hK' K')|((with_reducible refine WL.step fun K2 hK2=>?_);simp only [simprocAttr,az,cnA,cnC,rsA,rsC,ml_1,ml_3];(repeat' (first|with_reducible (first|(apply hK2;clear hK2 K2)|apply And.intro|intro hb)|((with_reducible first|apply zl|apply zm);case h=>exact CallV.plain (Ent.of Tryz.func95 (by kernel_rfl) rfl) (chan_ok s e.obj e.n hl) (by simp [AV.okB]))|((with_reducible first|apply zl|apply zm);case h=>exact CallV.plain (Ent.of Tryz.func97 (by kernel_rfl) rfl) (z7W s { qB e.obj e.n s.chans with closed:=true } hl) (by simp [AV.okB]))|((with_reducible first|apply zl|apply zm);case h=>exact CallV.plain (Ent.of Tryz.func96 (by kernel_rfl) rfl) (z4M s e [⟨16,e.g,0⟩] hl) (by simp [AV.okB]))|((with_reducible first|apply zl|apply zm);case h=>exact CallV.plain (Ent.of Tryz.func96 (by kernel_rfl) rfl) (z4M s e [⟨17,-1,e.g⟩,⟨18,-1,0⟩,⟨16,e.g,0⟩] hl) (by simp [AV.okB]))|((with_reducible first|apply zl|apply zm);case h=>exact CallV.plain (Ent.of Tryz.func96 (by kernel_rfl) rfl) (z4M s e [⟨18,e.g,0⟩] hl) (by simp [AV.okB]))|((with_reducible first|apply zl|apply zm);case h=>exact CallV.plain (Ent.of Tryz.func96 (by kernel_rfl) rfl) (z4M s e [⟨15,-1,e.g⟩,⟨18,e.g,0⟩,⟨16,-1,0⟩] hl) (by simp [AV.okB]))))))))|apply T.skip|apply T.exit|refine T.zg rfl ?_|refine T.zf rfl ?_|refine T.cond rfl (fun hc=>?_) (fun hc=>?_)|apply T.ret|simp only [zb,za,reduceIte,Nat.reduceEqDiff]|((repeat ((fail_if_success apply hK);clear hK K));apply hK;clear hK K))
 all_goals (try refine T.comm [c0,some (0,1),some (0,1),c0,some (0,1),some (0,1),some (0,1),some (0,1),some (0,1),some (0,1),none,some (1,1)] (by kernel_rfl) (by kernel_rfl) fun K' hK'=>?_;simp only [List.map_cons,List.map_nil,List.zip_cons_cons,List.zip_nil_left];(repeat' (first|(with_reducible refine WC.fin ?_;apply hK';clear hK' K')|((first|(with_reducible refine WC.z0Q fun K2 hK2=>?_)|(with_reducible refine WC.stepW fun K2 hK2=>?_));simp only [simprocAttr,implies_true,amz,WCg,WCv,WOw,allP,dav,Chk,List.filter_cons,List.filter_nil,bne_self_eq_false,Nat.reduceBneDiff,Bool.false_eq_true,tys,cnA,cnC,rsA,rsC];(repeat' (first|(with_reducible refine hK2 _ _ ?_;clear hK2 K2)|with_reducible (first|(apply hK2;clear hK2 K2)|apply And.intro|intro hb)|(with_reducible rfl)|((with_reducible show @Eq ASt _ _);rfl) )))));all_goals ((try simp only [zb,za,reduceIte,Nat.reduceEqDiff]);(try ((repeat ((fail_if_success apply hK);clear hK K));apply hK;clear hK K))))
 all_goals repeat' (first|refine T.zh fun K hK=>?_|apply T.block|(refine T.reg (by kernel_rfl) fun K' hK'=>?_;simp only [bz];(with_reducible repeat' (first|(apply WL.fin;apply hK';clear hK' K')|(refine WL.step fun K2 hK2=>?_;simp only [simprocAttr,az];repeat' (first|(apply hK2;clear hK2 K2)|apply And.intro|intro hb)))))|apply T.skip|apply T.exit|refine T.zg rfl ?_|refine T.zf rfl ?_|refine T.cond rfl (fun hc=>?_) (fun hc=>?_)|apply T.ret|simp only [zb,za,reduceIte,Nat.reduceEqDiff]|((repeat ((fail_if_success apply hK);clear hK K));apply hK;clear hK K))
 all_goals (refine zH.ret (.inr rfl) Tryz.results84 ?_;simp only [zw,zt,zq,simprocAttr,az,];simp [z2J, *])
def badB (s:Rs) (e:Ev) (w:Wt):Bool:=e.kind != w.kind||e.obj != s.obj||e.k != s.k||e.n != s.n||(decide (0≤w.g)&&e.g != w.g)||(decide (w.g<0)&&e.g==w.not)
def fixW (e:Ev) (w x:Wt):Wt:=if (decide (w.g<0)&&decide (x.g<0))=true then { x with g:=e.g } else x
def z2X (s:Rs) (nx:List Wt):Rs := { s with next:=nx }
def z0J (s:Rs) (e:Ev) (w:Wt) (r:List Wt):Rs × Bool:=if badB s e w=true then (s,false) else (z02 (z2X s (r.map (fixW e w))) e,true)
theorem map_take {α β:Type} {l:List α} {k:Nat} {x : α} (f : α → β) (h:l[k]? = some x):(l.take (k+1)).map f=(l.take k).map f ++ [f x]:=by
 rw [List.take_add_one,h];simp
theorem group_bad (s:Rs) (e:Ev) (w:Wt) (r:List Wt) (hs:s.next=w :: r) (hbad:badB s e w=true):zx Tryz.prog 83 [rsA s,evA e] (.tup [rsA (z0J s e w r).1,.bool (z0J s e w r).2]):=by
 have hres:z0J s e w r=(s,false):=by simp [z0J,hbad]
 rw [hres]
 simp only [rsA,rsC,List.map_cons,List.map_nil,evA,evC,hs]
 refine zx.of Tryz.func83 rfl 97 rfl (by decide) (by simp [AV.okB]) ?_
 repeat' (first|refine T.zh fun K hK=>?_|apply T.block|(refine T.reg (by kernel_rfl) fun K' hK'=>?_;simp only [bz];(with_reducible repeat' (first|(apply WL.fin;apply hK';clear hK' K')|(refine WL.step fun K2 hK2=>?_;simp only [simprocAttr,az,List.map_cons,wtC,List.getElem?_cons_zero,Int.toNat_zero,Int.reduceToNat];repeat' (first|(apply hK2;clear hK2 K2)|apply And.intro|intro hb)))))|apply T.skip|apply T.exit|refine T.zg rfl ?_|refine T.zf rfl ?_|refine T.cond rfl (fun hc=>?_) (fun hc=>?_)|apply T.ret|simp only [zb,za,reduceIte,Nat.reduceEqDiff]|((repeat ((fail_if_success apply hK);clear hK K));apply hK;clear hK K))
 all_goals first
  | ((refine zH.ret (.inr rfl) Tryz.results83 ?_;simp only [zw,zt,zq,simprocAttr,az,wtC]);done)
  | (exfalso;simp_all [badB];done)
  | (exfalso;simp_all [badB];omega)
theorem z9z (s:Rs) (e:Ev) (w:Wt) (r:List Wt) (hs:s.next=w :: r) (hl:s.chans.length≤1000000) (hr:r.length≤1000) (hbad' : badB s e w=false):zx Tryz.prog 83 [rsA s,evA e] (.tup [rsA (z0J s e w r).1,.bool (z0J s e w r).2]):=by
 have hres:z0J s e w r=(z02 (z2X s (r.map (fixW e w))) e,true):=by simp [z0J,hbad']
 rw [hres]
 have hb2:=hbad'
 simp only [badB,Bool.or_eq_false_iff] at hb2
 obtain ⟨⟨⟨⟨⟨b1,b2⟩,b3⟩,b4⟩,b5⟩,b6⟩:=hb2
 simp only [rsA,rsC,List.map_cons,List.map_nil,evA,evC]
 refine zx.of Tryz.func83 rfl 97 rfl (by decide) (by simp [AV.okB]) ?_
 have two:(decide (0≤w.g)=true∧(e.g != w.g)=false∧decide (w.g<0)=false)∨(decide (0≤w.g)=false∧decide (w.g<0)=true∧(e.g==w.not)=false):=by
  by_cases h0 : 0≤w.g
  ·left;simp_all
  ·right;simp_all
 rcases two with ⟨w1,w2,w3⟩|⟨w1,w3,w2⟩
 ·repeat' (first|refine T.zh fun K hK=>?_|apply T.block|(refine T.reg (by kernel_rfl) fun K' hK'=>?_;simp only [bz];(with_reducible repeat' (first|(apply WL.fin;apply hK';clear hK' K')|(refine WL.step fun K2 hK2=>?_;simp only [simprocAttr,az,hs,List.map_cons,wtC,List.getElem?_cons_zero,Int.toNat_zero,Int.reduceToNat,b1,b2,b3,b4,w1,w2,w3];repeat' (first|(apply hK2;clear hK2 K2)|apply And.intro|intro hb)))))|apply T.skip|apply T.exit|refine T.zg rfl ?_|refine T.zf rfl ?_|refine T.cond rfl (fun hc=>?_) (fun hc=>?_)|apply T.ret|simp only [zb,za,reduceIte,Nat.reduceEqDiff]|((repeat ((fail_if_success apply hK);clear hK K));apply hK;clear hK K))
  refine T.qC (fun k:Nat=>⟨[(0,rsA s),(1,evA e),(2,.ptr 0 0),(3,.ptr 1 0),(4,.ptr 2 0),(5,.bool false),(6,.ptr 3 0),(7,.own 4),(8,.int ((k+1:Nat):Int))],[(4,.row 135 3 (((r.take k).map (fixW e w)).map wtC)),(3,.box 135 ((wtC w).map .p)),(2,.box 110 [.int 0,.int 0,.p (.val (.slice none 0 0)),.p (.val (.slice none 0 0)),.p (.val (.slice none 0 0)),.p (.val (.slice none 0 0)),.int 0,.int 0,.int 0]),(1,.box 30 ((evC e).map .p)),(0,.box 110 ((rsC s).map .p))],97,5⟩) (fun k=>k≤r.length) (fun k=>r.length-k) 0 (Nat.zero_le _) ((zk.z7c _ 7 135 3 (show 7<97 by decide) rfl).trans (by refine zk.of' rfl ?_;simp only [wks,reduceIte,Nat.reduceEqDiff,ASt.okB,AV.okB,Nat.reduceLT,implies_true,ASt.add,qJ,Int.natCast_zero,rsA,rsC,wtC,evA,evC,List.map_cons,List.map_nil,List.take_zero,List.filter_nil,Nat.zero_add,Int.natCast_one,hs])) ?_
  rintro k hk KL hKL
  simp only [rsA,rsC,List.map_cons,List.map_nil,wtC,evA,evC,hs]
  have hrk:(r.take k).length+1≤2000:=by simp;omega
  have hmx:(r.take k).length+1≤maxLen:=by unfold maxLen;omega
  have hmy:((r.take k).length+1)*24≤140737488355328:=by omega
  by_cases hlt:k<r.length
  ·obtain ⟨x,hx⟩:=zQ hlt
   have hd:decide (((k+1:Nat):Int)<((r.length+1:Nat):Int))=true:=by simp;omega
   have hcont : ∀ s',zk s' _→KL s':=fun s' hw=>hKL s' (k+1) (by rw [map_take (fixW e w) hx,List.map_append];exact hw) (by omega) (by omega)
   repeat' (first|refine T.zh fun K hK=>?_|apply T.block|(refine T.reg (by kernel_rfl) fun K' hK'=>?_;simp only [bz];(with_reducible repeat' (first|(apply WL.fin;apply hK';clear hK' K')|(refine WL.step fun K2 hK2=>?_;simp only [simprocAttr,az,hx,hd,wtC,hs,List.map_cons,List.getElem?_cons_succ,List.length_cons,w3,hmx,hmy,ml_1];repeat' (first|(apply hK2;clear hK2 K2)|apply And.intro|intro hb)))))|apply T.skip|apply T.exit|refine T.zg rfl ?_|refine T.zf rfl ?_|refine T.cond rfl (fun hc=>?_) (fun hc=>?_)|apply T.ret|simp only [zb,za,reduceIte,Nat.reduceEqDiff]|((repeat ((fail_if_success apply hK);clear hK K));apply hK;clear hK K))
   all_goals (refine hcont _ ?_;refine zk.of' rfl ?_;simp only [wks,reduceIte,Nat.reduceEqDiff,ASt.okB,AV.okB,Nat.reduceLT,implies_true,zu (show k+1<1152921504606846976 by omega),rsA,rsC,wtC,evA,evC,List.map_cons,List.map_nil,hs,fixW,w3,Bool.false_and,Bool.true_and,Bool.false_eq_true,if_false,if_true, *])
  ·have hd:decide (((k+1:Nat):Int)<((r.length+1:Nat):Int))=false:=by simp;omega
   refine T.weak (zk.frz _ 4) ?_;simp only [ASt.frz,List.filter_cons,List.filter_nil,bne_self_eq_false,Nat.reduceBneDiff,Bool.false_eq_true,simprocAttr,implies_true,amz,]
   have ht:r.take k=r:=List.take_of_length_le (by omega)
   rw [ht]
   repeat' (first|refine T.zh fun K hK=>?_|apply T.block|(refine T.reg (by kernel_rfl) fun K' hK'=>?_;simp only [bz];(repeat' (first|(with_reducible refine WL.fin ?_;apply hK';clear hK' K')|((with_reducible refine WL.step fun K2 hK2=>?_);simp only [simprocAttr,az,hd,wtC,List.map_cons,List.length_cons,rsA,rsC];(repeat' (first|with_reducible (first|(apply hK2;clear hK2 K2)|apply And.intro|intro hb)|((with_reducible first|apply zl|apply zm);case h=>exact CallV.plain (Ent.of Tryz.func94 (by kernel_rfl) rfl) (z4i (z2X s (r.map (fixW e w))) e hl) (by simp [AV.okB]))))))))|apply T.skip|apply T.exit|refine T.zg rfl ?_|refine T.zf rfl ?_|refine T.cond rfl (fun hc=>?_) (fun hc=>?_)|apply T.ret|simp only [zb,za,reduceIte,Nat.reduceEqDiff]|((repeat ((fail_if_success apply hK);clear hK K));apply hK;clear hK K))
   all_goals (refine zH.ret (.inr rfl) Tryz.results83 ?_;simp only [zw,zt,zq,simprocAttr,az,])
 ·repeat' (first|refine T.zh fun K hK=>?_|apply T.block|(refine T.reg (by kernel_rfl) fun K' hK'=>?_;simp only [bz];(with_reducible repeat' (first|(apply WL.fin;apply hK';clear hK' K')|(refine WL.step fun K2 hK2=>?_;simp only [simprocAttr,az,hs,List.map_cons,wtC,List.getElem?_cons_zero,Int.toNat_zero,Int.reduceToNat,b1,b2,b3,b4,w1,w2,w3];repeat' (first|(apply hK2;clear hK2 K2)|apply And.intro|intro hb)))))|apply T.skip|apply T.exit|refine T.zg rfl ?_|refine T.zf rfl ?_|refine T.cond rfl (fun hc=>?_) (fun hc=>?_)|apply T.ret|simp only [zb,za,reduceIte,Nat.reduceEqDiff]|((repeat ((fail_if_success apply hK);clear hK K));apply hK;clear hK K))
  refine T.qC (fun k:Nat=>⟨[(0,rsA s),(1,evA e),(2,.ptr 0 0),(3,.ptr 1 0),(4,.ptr 2 0),(5,.bool false),(6,.ptr 3 0),(7,.own 4),(8,.int ((k+1:Nat):Int))],[(4,.row 135 3 (((r.take k).map (fixW e w)).map wtC)),(3,.box 135 ((wtC w).map .p)),(2,.box 110 [.int 0,.int 0,.p (.val (.slice none 0 0)),.p (.val (.slice none 0 0)),.p (.val (.slice none 0 0)),.p (.val (.slice none 0 0)),.int 0,.int 0,.int 0]),(1,.box 30 ((evC e).map .p)),(0,.box 110 ((rsC s).map .p))],97,5⟩) (fun k=>k≤r.length) (fun k=>r.length-k) 0 (Nat.zero_le _) ((zk.z7c _ 7 135 3 (show 7<97 by decide) rfl).trans (by refine zk.of' rfl ?_;simp only [wks,reduceIte,Nat.reduceEqDiff,ASt.okB,AV.okB,Nat.reduceLT,implies_true,ASt.add,qJ,Int.natCast_zero,rsA,rsC,wtC,evA,evC,List.map_cons,List.map_nil,List.take_zero,List.filter_nil,Nat.zero_add,Int.natCast_one,hs])) ?_
  rintro k hk KL hKL
  simp only [rsA,rsC,List.map_cons,List.map_nil,wtC,evA,evC,hs]
  have hrk:(r.take k).length+1≤2000:=by simp;omega
  have hmx:(r.take k).length+1≤maxLen:=by unfold maxLen;omega
  have hmy:((r.take k).length+1)*24≤140737488355328:=by omega
  by_cases hlt:k<r.length
  ·obtain ⟨x,hx⟩:=zQ hlt
   have hd:decide (((k+1:Nat):Int)<((r.length+1:Nat):Int))=true:=by simp;omega
   have hcont : ∀ s',zk s' _→KL s':=fun s' hw=>hKL s' (k+1) (by rw [map_take (fixW e w) hx,List.map_append];exact hw) (by omega) (by omega)
   repeat' (first|refine T.zh fun K hK=>?_|apply T.block|(refine T.reg (by kernel_rfl) fun K' hK'=>?_;simp only [bz];(with_reducible repeat' (first|(apply WL.fin;apply hK';clear hK' K')|(refine WL.step fun K2 hK2=>?_;simp only [simprocAttr,az,hx,hd,wtC,hs,List.map_cons,List.getElem?_cons_succ,List.length_cons,w3,hmx,hmy,ml_1];repeat' (first|(apply hK2;clear hK2 K2)|apply And.intro|intro hb)))))|apply T.skip|apply T.exit|refine T.zg rfl ?_|refine T.zf rfl ?_|refine T.cond rfl (fun hc=>?_) (fun hc=>?_)|apply T.ret|simp only [zb,za,reduceIte,Nat.reduceEqDiff]|((repeat ((fail_if_success apply hK);clear hK K));apply hK;clear hK K))
   all_goals (refine hcont _ ?_;refine zk.of' rfl ?_;simp only [wks,reduceIte,Nat.reduceEqDiff,ASt.okB,AV.okB,Nat.reduceLT,implies_true,zu (show k+1<1152921504606846976 by omega),rsA,rsC,wtC,evA,evC,List.map_cons,List.map_nil,hs,fixW,w3,Bool.false_and,Bool.true_and,Bool.false_eq_true,if_false,if_true, *])
  ·have hd:decide (((k+1:Nat):Int)<((r.length+1:Nat):Int))=false:=by simp;omega
   refine T.weak (zk.frz _ 4) ?_;simp only [ASt.frz,List.filter_cons,List.filter_nil,bne_self_eq_false,Nat.reduceBneDiff,Bool.false_eq_true,simprocAttr,implies_true,amz,]
   have ht:r.take k=r:=List.take_of_length_le (by omega)
   rw [ht]
   repeat' (first|refine T.zh fun K hK=>?_|apply T.block|(refine T.reg (by kernel_rfl) fun K' hK'=>?_;simp only [bz];(repeat' (first|(with_reducible refine WL.fin ?_;apply hK';clear hK' K')|((with_reducible refine WL.step fun K2 hK2=>?_);simp only [simprocAttr,az,hd,wtC,List.map_cons,List.length_cons,rsA,rsC];(repeat' (first|with_reducible (first|(apply hK2;clear hK2 K2)|apply And.intro|intro hb)|((with_reducible first|apply zl|apply zm);case h=>exact CallV.plain (Ent.of Tryz.func94 (by kernel_rfl) rfl) (z4i (z2X s (r.map (fixW e w))) e hl) (by simp [AV.okB]))))))))|apply T.skip|apply T.exit|refine T.zg rfl ?_|refine T.zf rfl ?_|refine T.cond rfl (fun hc=>?_) (fun hc=>?_)|apply T.ret|simp only [zb,za,reduceIte,Nat.reduceEqDiff]|((repeat ((fail_if_success apply hK);clear hK K));apply hK;clear hK K))
   all_goals (refine zH.ret (.inr rfl) Tryz.results83 ?_;simp only [zw,zt,zq,simprocAttr,az,])
theorem group_ok (s:Rs) (e:Ev) (w:Wt) (r:List Wt) (hs:s.next=w :: r) (hl:s.chans.length≤1000000) (hr:r.length≤1000):zx Tryz.prog 83 [rsA s,evA e] (.tup [rsA (z0J s e w r).1,.bool (z0J s e w r).2]):=by
 by_cases h:badB s e w=true
 ·exact group_bad s e w r hs h
 ·exact z9z s e w r hs hl hr (by simpa using h)
def z5t (m:Lk) (b:Bool):Lk := { m with locked:=b }
def z5z (m:Lk) (d:Int):Lk := { m with readers:=IntKind.i64.wrap d }
def z0L (s:Rs) (e:Ev):Rs × Bool :=
 if (e.kind==6)=true then (setL s (z5t (qW e.obj e.off s.locks) true),!(qW e.obj e.off s.locks).locked&&(qW e.obj e.off s.locks).readers==0)
 else if (e.kind==7)=true then (setL s (z5t (qW e.obj e.off s.locks) false),!(!(qW e.obj e.off s.locks).locked))
 else if (e.kind==8)=true then (setL s (z5z (qW e.obj e.off s.locks) ((qW e.obj e.off s.locks).readers+1)),!(qW e.obj e.off s.locks).locked)
 else if (e.kind==9)=true then (setL s (z5z (qW e.obj e.off s.locks) ((qW e.obj e.off s.locks).readers-1)),decide (0≤IntKind.i64.wrap ((qW e.obj e.off s.locks).readers-1)))
 else if (e.kind==12)=true then ({ s with done:=s.done ++ [(e.obj,e.off)] },!z8A s e.obj e.off)
 else if (e.kind==13)=true then (s,z8A s e.obj e.off)
 else if (e.kind==14)=true then ({ s with gor:=IntKind.i64.wrap (s.gor+1) },e.k==s.gor)
 else (s,true)
theorem other_ok (s:Rs) (e:Ev) (hl:s.locks.length≤1000000) (hdn:s.done.length≤1000000):zx Tryz.prog 85 [rsA s,evA e] (.tup [rsA (z0L s e).1,.bool (z0L s e).2]):=by
 simp only [rsA,rsC,List.map_cons,List.map_nil,evA,evC]
 refine zx.of Tryz.func85 rfl 109 rfl (by decide) (by simp [AV.okB]) ?_
 have hmx:s.done.length+1≤maxLen:=by unfold maxLen;omega
 have hmw:s.done.length≤maxLen:=by unfold maxLen;omega
 have hmy:(s.done.length+1)*16≤140737488355328:=by omega
 have hmz:s.done.length*16≤140737488355328:=by omega
 by_cases h12:(e.kind==12)=true
 ·have n6:(e.kind==6)=false:=by simp at h12 ⊢;omega
  have n7:(e.kind==7)=false:=by simp at h12 ⊢;omega
  have n8:(e.kind==8)=false:=by simp at h12 ⊢;omega
  have n9:(e.kind==9)=false:=by simp at h12 ⊢;omega
  repeat' (first|refine T.zh fun K hK=>?_|apply T.block|(refine T.reg (by kernel_rfl) fun K' hK'=>?_;simp only [bz];(repeat' (first|(with_reducible refine WL.fin ?_;apply hK';clear hK' K')|((with_reducible refine WL.step fun K2 hK2=>?_);simp only [simprocAttr,az,lkA,lkC,rsA,rsC,n6,n7,n8,n9,h12];(repeat' (first|with_reducible (first|(apply hK2;clear hK2 K2)|apply And.intro|intro hb)|((with_reducible first|apply zl|apply zm);case h=>exact CallV.plain (Ent.of Tryz.func98 (by kernel_rfl) rfl) (lock_ok s e.obj e.off hl) (by simp [AV.okB]))|((with_reducible first|apply zl|apply zm);case h=>exact CallV.plain (Ent.of Tryz.func100 (by kernel_rfl) rfl) (done_ok s e.obj e.off hdn) (by simp [AV.okB]))))))))|apply T.skip|apply T.exit|refine T.zg rfl ?_|refine T.zf rfl ?_|refine T.cond rfl (fun hc=>?_) (fun hc=>?_)|apply T.ret|simp only [zb,za,reduceIte,Nat.reduceEqDiff]|((repeat ((fail_if_success apply hK);clear hK K));apply hK;clear hK K))
  refine T.comm [none,some (0,3),some (0,1),none,some (0,3),some (0,3),some (0,3),some (0,3),some (0,3),some (0,2),none,some (3,3),none] (by kernel_rfl) (by kernel_rfl) fun K' hK'=>?_;simp only [List.map_cons,List.map_nil,List.zip_cons_cons,List.zip_nil_left];(repeat' (first|(with_reducible refine WC.fin ?_;apply hK';clear hK' K')|((first|(with_reducible refine WC.z0Q fun K2 hK2=>?_)|(with_reducible refine WC.stepW fun K2 hK2=>?_));simp only [simprocAttr,implies_true,amz,WCg,WCv,WOw,allP,dav,Chk,List.filter_cons,List.filter_nil,bne_self_eq_false,Nat.reduceBneDiff,Bool.false_eq_true,tys,lkA,lkC,rsA,rsC,hmx,hmy,hmw,hmz,ml_1];(repeat' (first|(with_reducible refine hK2 _ _ ?_;clear hK2 K2)|with_reducible (first|(apply hK2;clear hK2 K2)|apply And.intro|intro hb)|(with_reducible rfl)|((with_reducible show @Eq ASt _ _);rfl) )))));all_goals ((try simp only [zb,za,reduceIte,Nat.reduceEqDiff]);(try ((repeat ((fail_if_success apply hK);clear hK K));apply hK;clear hK K)))
  refine T.weak (zk.frz _ 6) ?_;simp only [ASt.frz,List.filter_cons,List.filter_nil,bne_self_eq_false,Nat.reduceBneDiff,Bool.false_eq_true,simprocAttr,az]
  repeat' (first|refine T.zh fun K hK=>?_|apply T.block|(refine T.reg (by kernel_rfl) fun K' hK'=>?_;simp only [bz];(with_reducible repeat' (first|(apply WL.fin;apply hK';clear hK' K')|(refine WL.step fun K2 hK2=>?_;simp only [simprocAttr,az,lkA,lkC,rsA,rsC];repeat' (first|(apply hK2;clear hK2 K2)|apply And.intro|intro hb)))))|apply T.skip|apply T.exit|refine T.zg rfl ?_|refine T.zf rfl ?_|refine T.cond rfl (fun hc=>?_) (fun hc=>?_)|apply T.ret|simp only [zb,za,reduceIte,Nat.reduceEqDiff]|((repeat ((fail_if_success apply hK);clear hK K));apply hK;clear hK K))
  all_goals (refine zH.ret (.inr rfl) Tryz.results85 ?_;simp only [zw,zt,zq,simprocAttr,az,];simp [z0L,loC, *])
 have h12' : (e.kind==12)=false:=by simpa using h12
 repeat' (first|refine T.zh fun K hK=>?_|apply T.block|(refine T.reg (by kernel_rfl) fun K' hK'=>?_;simp only [bz];(repeat' (first|(with_reducible refine WL.fin ?_;apply hK';clear hK' K')|((with_reducible refine WL.step fun K2 hK2=>?_);simp only [simprocAttr,az,lkA,lkC,rsA,rsC,h12'];(repeat' (first|with_reducible (first|(apply hK2;clear hK2 K2)|apply And.intro|intro hb)|((with_reducible first|apply zl|apply zm);case h=>exact CallV.plain (Ent.of Tryz.func98 (by kernel_rfl) rfl) (lock_ok s e.obj e.off hl) (by simp [AV.okB]))|((with_reducible first|apply zl|apply zm);case h=>exact CallV.plain (Ent.of Tryz.func99 (by kernel_rfl) rfl) (z6W s (z5t (qW e.obj e.off s.locks) false) hl) (by simp [AV.okB]))|((with_reducible first|apply zl|apply zm);case h=>exact CallV.plain (Ent.of Tryz.func99 (by kernel_rfl) rfl) (z6W s (z5z (qW e.obj e.off s.locks) ((qW e.obj e.off s.locks).readers+1)) hl) (by simp [AV.okB]))))))))|apply T.skip|apply T.exit|refine T.zg rfl ?_|refine T.zf rfl ?_|refine T.cond rfl (fun hc=>?_) (fun hc=>?_)|apply T.ret|simp only [zb,za,reduceIte,Nat.reduceEqDiff]|((repeat ((fail_if_success apply hK);clear hK K));apply hK;clear hK K))
 ·refine T.comm [c0,c0,c0,some (0,1),c0,some (0,1),some (0,1),some (0,1),some (0,1),none,some (1,1)] (by kernel_rfl) (by kernel_rfl) fun K' hK'=>?_;simp only [List.map_cons,List.map_nil,List.zip_cons_cons,List.zip_nil_left];(repeat' (first|(with_reducible refine WC.fin ?_;apply hK';clear hK' K')|((first|(with_reducible refine WC.z0Q fun K2 hK2=>?_)|(with_reducible refine WC.stepW fun K2 hK2=>?_));simp only [simprocAttr,implies_true,amz,WCg,WCv,WOw,allP,dav,Chk,List.filter_cons,List.filter_nil,bne_self_eq_false,Nat.reduceBneDiff,Bool.false_eq_true,tys,lkA,lkC,rsA,rsC];(repeat' (first|(with_reducible refine hK2 _ _ ?_;clear hK2 K2)|with_reducible (first|(apply hK2;clear hK2 K2)|apply And.intro|intro hb)|(with_reducible rfl)|((with_reducible show @Eq ASt _ _);rfl)|((with_reducible first|apply zl|apply zm);case h=>exact CallV.plain (Ent.of Tryz.func99 (by kernel_rfl) rfl) (z6W s (z5t (qW e.obj e.off s.locks) true) hl) (by simp [AV.okB])))))));all_goals ((try simp only [zb,za,reduceIte,Nat.reduceEqDiff]);(try ((repeat ((fail_if_success apply hK);clear hK K));apply hK;clear hK K)))
  all_goals repeat' (first|refine T.zh fun K hK=>?_|apply T.block|(refine T.reg (by kernel_rfl) fun K' hK'=>?_;simp only [bz];(with_reducible repeat' (first|(apply WL.fin;apply hK';clear hK' K')|(refine WL.step fun K2 hK2=>?_;simp only [simprocAttr,az,lkA,lkC,rsA,rsC];repeat' (first|(apply hK2;clear hK2 K2)|apply And.intro|intro hb)))))|apply T.skip|apply T.exit|refine T.zg rfl ?_|refine T.zf rfl ?_|refine T.cond rfl (fun hc=>?_) (fun hc=>?_)|apply T.ret|simp only [zb,za,reduceIte,Nat.reduceEqDiff]|((repeat ((fail_if_success apply hK);clear hK K));apply hK;clear hK K))
  all_goals (refine zH.ret (.inr rfl) Tryz.results85 ?_;simp only [zw,zt,zq,simprocAttr,az,];simp [z0L,z5z,z5t, *])
 ·refine zH.ret (.inr rfl) Tryz.results85 ?_;simp only [zw,zt,zq,simprocAttr,az,];simp [z0L,z5z,z5t, *]
 ·refine zH.ret (.inr rfl) Tryz.results85 ?_;simp only [zw,zt,zq,simprocAttr,az,];simp [z0L,z5z,z5t, *]
 ·refine T.comm [c0,c0,c0,some (0,1),some (0,1),some (0,1),none,some (1,1)] (by kernel_rfl) (by kernel_rfl) fun K' hK'=>?_;simp only [List.map_cons,List.map_nil,List.zip_cons_cons,List.zip_nil_left];(repeat' (first|(with_reducible refine WC.fin ?_;apply hK';clear hK' K')|((first|(with_reducible refine WC.z0Q fun K2 hK2=>?_)|(with_reducible refine WC.stepW fun K2 hK2=>?_));simp only [simprocAttr,implies_true,amz,WCg,WCv,WOw,allP,dav,Chk,List.filter_cons,List.filter_nil,bne_self_eq_false,Nat.reduceBneDiff,Bool.false_eq_true,tys,lkA,lkC,rsA,rsC];(repeat' (first|(with_reducible refine hK2 _ _ ?_;clear hK2 K2)|with_reducible (first|(apply hK2;clear hK2 K2)|apply And.intro|intro hb)|(with_reducible rfl)|((with_reducible show @Eq ASt _ _);rfl)|((with_reducible first|apply zl|apply zm);case h=>exact CallV.plain (Ent.of Tryz.func99 (by kernel_rfl) rfl) (z6W s (z5z (qW e.obj e.off s.locks) ((qW e.obj e.off s.locks).readers-1)) hl) (by simp [AV.okB])))))));all_goals ((try simp only [zb,za,reduceIte,Nat.reduceEqDiff]);(try ((repeat ((fail_if_success apply hK);clear hK K));apply hK;clear hK K)))
  all_goals repeat' (first|refine T.zh fun K hK=>?_|apply T.block|(refine T.reg (by kernel_rfl) fun K' hK'=>?_;simp only [bz];(with_reducible repeat' (first|(apply WL.fin;apply hK';clear hK' K')|(refine WL.step fun K2 hK2=>?_;simp only [simprocAttr,az,lkA,lkC,rsA,rsC];repeat' (first|(apply hK2;clear hK2 K2)|apply And.intro|intro hb)))))|apply T.skip|apply T.exit|refine T.zg rfl ?_|refine T.zf rfl ?_|refine T.cond rfl (fun hc=>?_) (fun hc=>?_)|apply T.ret|simp only [zb,za,reduceIte,Nat.reduceEqDiff]|((repeat ((fail_if_success apply hK);clear hK K));apply hK;clear hK K))
  all_goals (refine zH.ret (.inr rfl) Tryz.results85 ?_;simp only [zw,zt,zq,simprocAttr,az,];simp [z0L,z5z,z5t, *])
 ·refine T.drw 7 (by kernel_rfl) (by kernel_rfl) fun K' hK'=>?_;simp only [List.map_cons,List.map_nil];(repeat' (first|(with_reducible refine WL.fin ?_;apply hK';clear hK' K')|(with_reducible refine WD.fin ?_)|((with_reducible first|refine WL.step fun K2 hK2=>?_|refine WD.step fun K2 hK2=>?_);simp only [simprocAttr,az,lkA,lkC,rsA,rsC];(repeat' (first|with_reducible (first|(apply hK2;clear hK2 K2)|apply And.intro|intro hb)|((with_reducible first|apply zl|apply zm);case h=>exact CallV.plain (Ent.of Tryz.func100 (by kernel_rfl) rfl) (done_ok s e.obj e.off hdn) (by simp [AV.okB])))))));all_goals ((try simp only [zb,za,reduceIte,Nat.reduceEqDiff]);(try ((repeat ((fail_if_success apply hK);clear hK K));apply hK;clear hK K)))
  all_goals repeat' (first|refine T.zh fun K hK=>?_|apply T.block|(refine T.reg (by kernel_rfl) fun K' hK'=>?_;simp only [bz];(with_reducible repeat' (first|(apply WL.fin;apply hK';clear hK' K')|(refine WL.step fun K2 hK2=>?_;simp only [simprocAttr,az,lkA,lkC,rsA,rsC];repeat' (first|(apply hK2;clear hK2 K2)|apply And.intro|intro hb)))))|apply T.skip|apply T.exit|refine T.zg rfl ?_|refine T.zf rfl ?_|refine T.cond rfl (fun hc=>?_) (fun hc=>?_)|apply T.ret|simp only [zb,za,reduceIte,Nat.reduceEqDiff]|((repeat ((fail_if_success apply hK);clear hK K));apply hK;clear hK K))
  all_goals (refine zH.ret (.inr rfl) Tryz.results85 ?_;simp only [zw,zt,zq,simprocAttr,az,];simp [z0L,z5z,z5t, *])
 ·refine T.comm [c0,some (0,1),some (0,1),some (0,1),some (0,1),none,some (1,1)] (by kernel_rfl) (by kernel_rfl) fun K' hK'=>?_;simp only [List.map_cons,List.map_nil,List.zip_cons_cons,List.zip_nil_left];(repeat' (first|(with_reducible refine WC.fin ?_;apply hK';clear hK' K')|((first|(with_reducible refine WC.z0Q fun K2 hK2=>?_)|(with_reducible refine WC.stepW fun K2 hK2=>?_));simp only [simprocAttr,implies_true,amz,WCg,WCv,WOw,allP,dav,Chk,List.filter_cons,List.filter_nil,bne_self_eq_false,Nat.reduceBneDiff,Bool.false_eq_true,tys,lkA,lkC,rsA,rsC];(repeat' (first|(with_reducible refine hK2 _ _ ?_;clear hK2 K2)|with_reducible (first|(apply hK2;clear hK2 K2)|apply And.intro|intro hb)|(with_reducible rfl)|((with_reducible show @Eq ASt _ _);rfl) )))));all_goals ((try simp only [zb,za,reduceIte,Nat.reduceEqDiff]);(try ((repeat ((fail_if_success apply hK);clear hK K));apply hK;clear hK K)))
  all_goals repeat' (first|refine T.zh fun K hK=>?_|apply T.block|(refine T.reg (by kernel_rfl) fun K' hK'=>?_;simp only [bz];(with_reducible repeat' (first|(apply WL.fin;apply hK';clear hK' K')|(refine WL.step fun K2 hK2=>?_;simp only [simprocAttr,az,lkA,lkC,rsA,rsC];repeat' (first|(apply hK2;clear hK2 K2)|apply And.intro|intro hb)))))|apply T.skip|apply T.exit|refine T.zg rfl ?_|refine T.zf rfl ?_|refine T.cond rfl (fun hc=>?_) (fun hc=>?_)|apply T.ret|simp only [zb,za,reduceIte,Nat.reduceEqDiff]|((repeat ((fail_if_success apply hK);clear hK K));apply hK;clear hK K))
  all_goals (refine zH.ret (.inr rfl) Tryz.results85 ?_;simp only [zw,zt,zq,simprocAttr,az,];simp [z0L,z5z,z5t, *])
 ·refine zH.ret (.inr rfl) Tryz.results85 ?_;simp only [zw,zt,zq,simprocAttr,az,];simp [z0L,z5z,z5t, *]
theorem AVle.agg {xs ys:List AV} (hl:xs.length=ys.length) (h : ∀ (j:Nat) x y,xs[j]? = some x→ys[j]? = some y→AVle x y):AVle (.agg xs) (.agg ys):=fun N D loc w v hv=>by
 cases hv with
 | agg _ vs h1 h2 h3 =>
  refine .agg ys vs (h1.trans hl) (fun j y hy=>?_) h3
  have hlt:j<xs.length:=by rw [hl];exact (List.getElem?_eq_some_iff.1 hy).1
  exact h j _ y (List.getElem?_eq_getElem hlt) hy N D loc w _ (h2 j _ (List.getElem?_eq_getElem hlt))
theorem zx.le {P:Program} {f:FuncId} {xs:List AV} {r r' : AV} (h:zx P f xs r) (hle:AVle r r'):zx P f xs r':=fun L w vs hL hvs=>(h L w vs hL hvs).mono fun _ _ ⟨v,h1,h2,h3⟩=>⟨v,h1,h2,hle _ _ _ _ _ h3⟩
theorem new_ok:zx Tryz.prog 69 [] (rsA rs0):=by
 refine zx.le (r := .agg [.int 0,.int 1,.p (.val (.slice none 0 0)),.p (.val (.slice none 0 0)),.p (.val (.slice none 0 0)),.p (.val (.slice none 0 0)),.int 0,.int 0,.int 0]) ?_ ?_
 ·refine zx.of Tryz.func69 rfl 2 rfl (by decide) (by simp [AV.okB]) ?_
  repeat' (first|refine T.zh fun K hK=>?_|apply T.block|(refine T.reg (by kernel_rfl) fun K' hK'=>?_;simp only [bz];(with_reducible repeat' (first|(apply WL.fin;apply hK';clear hK' K')|(refine WL.step fun K2 hK2=>?_;simp only [simprocAttr,az];repeat' (first|(apply hK2;clear hK2 K2)|apply And.intro|intro hb)))))|apply T.skip|apply T.exit|refine T.zg rfl ?_|refine T.zf rfl ?_|refine T.cond rfl (fun hc=>?_) (fun hc=>?_)|apply T.ret|simp only [zb,za,reduceIte,Nat.reduceEqDiff]|((repeat ((fail_if_success apply hK);clear hK K));apply hK;clear hK K))
  all_goals (refine zH.ret (.inr rfl) Tryz.results69 ?_;simp only [zw,zt,zq,simprocAttr,az,])
 ·refine AVle.agg rfl fun j x y hx hy=>?_
  rcases j with _|_|_|_|_|_|_|_|_|j <;> simp [rsC,rs0] at hx hy <;> subst hx <;> subst hy <;> first|exact AVle.refl _|exact AVle.nil _
def z3M (s:Rs) (e:Ev):Rs × Bool:=match s.next with
 | w :: r=>z0J s e w r
 | []=>if zT e.kind=true then z2J s e else z0L s e
def cnt1 (s:Rs):Rs := { s with count:=IntKind.i64.wrap (s.count+1) }
def z6C (s:Rs) (e:Ev):Bool := !qd e||decide (5000≤s.count)||decide (s.gor≤e.g)
def addB (s:Rs) (e:Ev):Rs × Bool:=if z6C s e=true then (s,false) else if (z3M s e).2=true then (cnt1 (z3M s e).1,true) else (s,false)
structure Sm (s:Rs):Prop where
 c:s.chans.length≤1000000
 l:s.locks.length≤1000000
 d:s.done.length≤1000000
 n:s.next.length≤1000
theorem add_ok (s:Rs) (e:Ev) (hs:Sm s):zx Tryz.prog 70 [rsA s,evA e] (.tup [rsA (addB s e).1,.bool (addB s e).2]):=by
 by_cases hno:z6C s e=true
 ·have hres:addB s e=(s,false):=by simp [addB,hno]
  rw [hres]
  simp only [rsA,rsC,List.map_cons,List.map_nil,evA,evC]
  refine zx.of Tryz.func70 rfl 59 rfl (by decide) (by simp [AV.okB]) ?_
  repeat' (first|refine T.zh fun K hK=>?_|apply T.block|(refine T.reg (by kernel_rfl) fun K' hK'=>?_;simp only [bz];(repeat' (first|(with_reducible refine WL.fin ?_;apply hK';clear hK' K')|((with_reducible refine WL.step fun K2 hK2=>?_);simp only [simprocAttr,az];(repeat' (first|with_reducible (first|(apply hK2;clear hK2 K2)|apply And.intro|intro hb)|((with_reducible first|apply zl|apply zm);case h=>exact CallV.plain (Ent.of Tryz.func31 (by kernel_rfl) rfl) (z3S e) (by simp [AV.okB]))))))))|apply T.skip|apply T.exit|refine T.zg rfl ?_|refine T.zf rfl ?_|refine T.cond rfl (fun hc=>?_) (fun hc=>?_)|apply T.ret|simp only [zb,za,reduceIte,Nat.reduceEqDiff]|((repeat ((fail_if_success apply hK);clear hK K));apply hK;clear hK K))
  all_goals first
   | ((refine zH.ret (.inr rfl) Tryz.results70 ?_;simp only [zw,zt,zq,simprocAttr,az,]);done)
   | (exfalso;simp_all [z6C];done)
 ·have hno' : z6C s e=false:=by simpa using hno
  have hn2:=hno'
  simp only [z6C,Bool.or_eq_false_iff] at hn2
  obtain ⟨⟨a1,a2⟩,a3⟩:=hn2
  cases hnx:s.next with
  | cons w r =>
   have hst:z3M s e=z0J s e w r:=by simp [z3M,hnx]
   have hrl:r.length≤1000:=by have:=hs.n;rw [hnx] at this;simp at this;omega
   have hd:decide ((0:Int)<((r.length+1:Nat):Int))=true:=by simp
   have hg:=group_ok s e w r hnx hs.c hrl
   simp only [rsA,rsC,List.map_cons,List.map_nil,evA,evC,hnx] at hg
   simp only [rsA,rsC,List.map_cons,List.map_nil,evA,evC]
   refine zx.of Tryz.func70 rfl 59 rfl (by decide) (by simp [AV.okB]) ?_
   repeat' (first|refine T.zh fun K hK=>?_|apply T.block|(refine T.reg (by kernel_rfl) fun K' hK'=>?_;simp only [bz];(repeat' (first|(with_reducible refine WL.fin ?_;apply hK';clear hK' K')|((with_reducible refine WL.step fun K2 hK2=>?_);simp only [simprocAttr,az,a1,a2,a3,hd,hnx,List.length_cons,List.map_cons,rsA,rsC];(repeat' (first|with_reducible (first|(apply hK2;clear hK2 K2)|apply And.intro|intro hb)|((with_reducible first|apply zl|apply zm);case h=>exact CallV.plain (Ent.of Tryz.func31 (by kernel_rfl) rfl) (z3S e) (by simp [AV.okB]))|((with_reducible first|apply zl|apply zm);case h=>exact CallV.plain (Ent.of Tryz.func83 (by kernel_rfl) rfl) (hg) (by simp [AV.okB]))))))))|apply T.skip|apply T.exit|refine T.zg rfl ?_|refine T.zf rfl ?_|refine T.cond rfl (fun hc=>?_) (fun hc=>?_)|apply T.ret|simp only [zb,za,reduceIte,Nat.reduceEqDiff]|((repeat ((fail_if_success apply hK);clear hK K));apply hK;clear hK K))
   all_goals (refine zH.ret (.inr rfl) Tryz.results70 ?_;simp only [zw,zt,zq,simprocAttr,az,];first|(simp [addB,hno',hst,cnt1, *];done)|(simp at hc;simp [addB,hno',hst,cnt1,hc, *];done))
  | nil =>
   have hst:z3M s e=if zT e.kind=true then z2J s e else z0L s e:=by simp [z3M,hnx]
   have hd:decide ((0:Int)<((0:Nat):Int))=false:=by simp
   have ht:=trans_ok s e hs.c
   have ho:=other_ok s e hs.l hs.d
   simp only [rsA,rsC,List.map_cons,List.map_nil,evA,evC,hnx] at ht ho
   simp only [rsA,rsC,List.map_cons,List.map_nil,evA,evC]
   refine zx.of Tryz.func70 rfl 59 rfl (by decide) (by simp [AV.okB]) ?_
   repeat' (first|refine T.zh fun K hK=>?_|apply T.block|(refine T.reg (by kernel_rfl) fun K' hK'=>?_;simp only [bz];(repeat' (first|(with_reducible refine WL.fin ?_;apply hK';clear hK' K')|((with_reducible refine WL.step fun K2 hK2=>?_);simp only [simprocAttr,az,a1,a2,a3,hd,hnx,rsA,rsC,List.length_nil,List.map_nil];(repeat' (first|with_reducible (first|(apply hK2;clear hK2 K2)|apply And.intro|intro hb)|((with_reducible first|apply zl|apply zm);case h=>exact CallV.plain (Ent.of Tryz.func31 (by kernel_rfl) rfl) (z3S e) (by simp [AV.okB]))|((with_reducible first|apply zl|apply zm);case h=>exact CallV.plain (Ent.of Tryz.func34 (by kernel_rfl) rfl) (z2d e.kind) (by simp [AV.okB]))|((with_reducible first|apply zl|apply zm);case h=>exact CallV.plain (Ent.of Tryz.func84 (by kernel_rfl) rfl) (ht) (by simp [AV.okB]))|((with_reducible first|apply zl|apply zm);case h=>exact CallV.plain (Ent.of Tryz.func85 (by kernel_rfl) rfl) (ho) (by simp [AV.okB]))))))))|apply T.skip|apply T.exit|refine T.zg rfl ?_|refine T.zf rfl ?_|refine T.cond rfl (fun hc=>?_) (fun hc=>?_)|apply T.ret|simp only [zb,za,reduceIte,Nat.reduceEqDiff]|((repeat ((fail_if_success apply hK);clear hK K));apply hK;clear hK K))
   all_goals (refine zH.ret (.inr rfl) Tryz.results70 ?_;simp only [zw,zt,zq,simprocAttr,az,];first|(simp [addB,hno',hst,cnt1, *];done)|(simp at hc;simp [addB,hno',hst,cnt1,hc, *];done))
structure Sn (s:Rs) (k:Nat):Prop where
 c:s.chans.length≤k
 l:s.locks.length≤k
 d:s.done.length≤k
 n:s.next.length≤3
theorem setC_len (s:Rs) (c:Cn):(setC s c).chans.length≤s.chans.length+1:=by
 simp only [setC,List.length_append,List.length_cons,List.length_nil]
 have:=List.length_filter_le (fun x:Cn=>x.obj != c.obj) s.chans
 omega
theorem setL_len (s:Rs) (c:Lk):(setL s c).locks.length≤s.locks.length+1:=by
 simp only [setL,List.length_append,List.length_cons,List.length_nil]
 have:=List.length_filter_le (z2W c) s.locks
 omega
theorem Sn.up {s:Rs} {k:Nat} (h:Sn s k):Sn s (k+1):=⟨by have:=h.c;omega,by have:=h.l;omega,by have:=h.d;omega,h.n⟩
theorem Sn.setC {s:Rs} {k:Nat} (h:Sn s k) (c:Cn):Sn (setC s c) (k+1):=⟨by have:=setC_len s c;have:=h.c;omega,by have:=h.l;simp only [Go.Proofs.YtdlgoofjechocaaGreatDoor.setC];omega,by have:=h.d;simp only [Go.Proofs.YtdlgoofjechocaaGreatDoor.setC];omega,h.n⟩
theorem Sn.setL {s:Rs} {k:Nat} (h:Sn s k) (c:Lk):Sn (setL s c) (k+1):=⟨by have:=h.c;simp only [Go.Proofs.YtdlgoofjechocaaGreatDoor.setL];omega,by have:=setL_len s c;have:=h.l;omega,by have:=h.d;simp only [Go.Proofs.YtdlgoofjechocaaGreatDoor.setL];omega,h.n⟩
theorem Sn.counted {s:Rs} {k:Nat} (h:Sn s k) (e:Ev):Sn (z02 s e) (k+1):=by
 unfold z02
 split
 ·exact h.setC _
 ·split
  ·exact h.setC _
  ·exact h.up
theorem Sn.begin {s:Rs} {k:Nat} (h:Sn s k) (e:Ev) (nx:List Wt) (hn:nx.length≤3):Sn (z2I s e nx) (k+1):=by
 unfold z2I
 exact Sn.counted (s:=openB s e nx) ⟨h.c,h.l,h.d,hn⟩ e
theorem Sn.group {s:Rs} {k:Nat} (h:Sn s k) (e:Ev) (w:Wt) (r:List Wt) (hnx:s.next=w :: r):Sn (z0J s e w r).1 (k+1):=by
 unfold z0J
 split
 ·exact h.up
 ·refine Sn.counted (s:=z2X s (r.map (fixW e w))) ⟨h.c,h.l,h.d,?_⟩ e
  have:=h.n
  rw [hnx] at this
  simp [z2X] at this ⊢
  omega
theorem Sn.trans {s:Rs} {k:Nat} (h:Sn s k) (e:Ev):Sn (z2J s e).1 (k+1):=by
 unfold z2J
 repeat' (first|exact h.up|exact h.setC _|exact h.begin e _ (by simp)|split)
theorem Sn.other {s:Rs} {k:Nat} (h:Sn s k) (e:Ev):Sn (z0L s e).1 (k+1):=by
 unfold z0L
 repeat' (first|exact h.up|exact h.setL _|exact ⟨by have:=h.c;simp only [];omega,by have:=h.l;simp only [];omega,by have:=h.d;simp;omega,h.n⟩|split)
theorem Sn.add {s:Rs} {k:Nat} (h:Sn s k) (e:Ev):Sn (addB s e).1 (k+1):=by
 have hst:Sn (z3M s e).1 (k+1):=by
  unfold z3M
  split
  ·rename_i w r hnx;exact h.group e w r hnx
  ·split
   ·exact h.trans e
   ·exact h.other e
 unfold addB
 split
 ·exact h.up
 ·split
  ·exact ⟨hst.c,hst.l,hst.d,hst.n⟩
  ·exact h.up
theorem Sn.sm {s:Rs} {k:Nat} (h:Sn s k) (hk:k≤1000000):Sm s:=⟨by have:=h.c;omega,by have:=h.l;omega,by have:=h.d;omega,by have:=h.n;omega⟩
def goB (s:Rs) (k:Int):List Ev→Int × Bool
 | []=>(k,true)
 | e :: r=>if (addB s e).2=true then goB (addB s e).1 (k+1) r else (k,false)
def qo (l:List Ev):Int × Bool:=goB rs0 0 l
theorem check_ok (l:List Ev) (hl:l.length≤1000000):zx Tryz.prog 57 [.p (.seq 9 (l.map evC))] (.tup [.int (qo l).1,.bool (qo l).2]):=by
 refine zx.of Tryz.func57 rfl 30 rfl (by decide) (by simp [AV.okB]) ?_
 repeat' (first|refine T.zh fun K hK=>?_|apply T.block|(refine T.reg (by kernel_rfl) fun K' hK'=>?_;simp only [bz];(repeat' (first|(with_reducible refine WL.fin ?_;apply hK';clear hK' K')|((with_reducible refine WL.step fun K2 hK2=>?_);simp only [simprocAttr,az,rsA,rsC];(repeat' (first|with_reducible (first|(apply hK2;clear hK2 K2)|apply And.intro|intro hb)|((with_reducible first|apply zl|apply zm);case h=>exact CallV.plain (Ent.of Tryz.func69 (by kernel_rfl) rfl) (new_ok) (by simp [AV.okB]))))))))|apply T.skip|apply T.exit|refine T.zg rfl ?_|refine T.zf rfl ?_|refine T.cond rfl (fun hc=>?_) (fun hc=>?_)|apply T.ret|simp only [zb,za,reduceIte,Nat.reduceEqDiff]|((repeat ((fail_if_success apply hK);clear hK K));apply hK;clear hK K))
 refine T.qC (fun p:Nat × Rs=>⟨[(0,.p (.seq 9 (l.map evC))),(2,.int 0),(3,.bool false),(4,.ptr 0 0),(5,.int p.1)],[(0,.box 110 ((rsC p.2).map .p))],30,1⟩) (fun p=>p.1≤l.length∧Sn p.2 p.1∧qo l=goB p.2 p.1 (l.drop p.1)) (fun p=>l.length-p.1) (0,rs0) ⟨Nat.zero_le _,⟨Nat.le_refl _,Nat.le_refl _,Nat.le_refl _,Nat.zero_le _⟩,rfl⟩ (by refine zk.of' rfl ?_;simp only [wks,reduceIte,Nat.reduceEqDiff,ASt.okB,AV.okB,Nat.reduceLT,implies_true,Int.natCast_zero,rsC,List.map_cons,List.map_nil]) ?_
 rintro ⟨k,s⟩ ⟨hk,hsn,hn⟩ KL hKL
 simp only at hk hsn hn hKL ⊢
 simp only [rsC,List.map_cons,List.map_nil]
 by_cases hlt:k<l.length
 ·obtain ⟨x,hx⟩:=zQ hlt
  have hd:decide ((k:Int)<(l.length:Int))=true:=by simpa using hlt
  rw [drop_at hx,goB] at hn
  have hcont:(addB s x).2=true → ∀ s',zk s' _→KL s':=fun h s' hw=>hKL s' (k+1,(addB s x).1) hw ⟨by simp only [];omega,hsn.add x,by rw [hn,if_pos h];rfl⟩ (by simp only [];omega)
  repeat' (first|refine T.zh fun K hK=>?_|apply T.block|(refine T.reg (by kernel_rfl) fun K' hK'=>?_;simp only [bz];(with_reducible repeat' (first|(apply WL.fin;apply hK';clear hK' K')|(refine WL.step fun K2 hK2=>?_;simp only [simprocAttr,az,hx,hd,evC];repeat' (first|(apply hK2;clear hK2 K2)|apply And.intro|intro hb)))))|apply T.skip|apply T.exit|refine T.zg rfl ?_|refine T.zf rfl ?_|refine T.cond rfl (fun hc=>?_) (fun hc=>?_)|apply T.ret|simp only [zb,za,reduceIte,Nat.reduceEqDiff]|((repeat ((fail_if_success apply hK);clear hK K));apply hK;clear hK K))
  refine T.comm [some (0,1),some (0,1),some (0,1),some (0,1),some (0,1),some (0,1),some (0,1),some (0,1),some (0,2),none,none,some (2,2)] (by kernel_rfl) (by kernel_rfl) fun K' hK'=>?_;simp only [List.map_cons,List.map_nil,List.zip_cons_cons,List.zip_nil_left];(repeat' (first|(with_reducible refine WC.fin ?_;apply hK';clear hK' K')|((first|(with_reducible refine WC.z0Q fun K2 hK2=>?_)|(with_reducible refine WC.stepW fun K2 hK2=>?_));simp only [simprocAttr,implies_true,amz,WCg,WCv,WOw,allP,dav,Chk,List.filter_cons,List.filter_nil,bne_self_eq_false,Nat.reduceBneDiff,Bool.false_eq_true,tys,hx,evC,rsA,rsC];(repeat' (first|(with_reducible refine hK2 _ _ ?_;clear hK2 K2)|with_reducible (first|(apply hK2;clear hK2 K2)|apply And.intro|intro hb)|(with_reducible rfl)|((with_reducible show @Eq ASt _ _);rfl)|((with_reducible first|apply zl|apply zm);case h=>exact CallV.plain (Ent.of Tryz.func70 (by kernel_rfl) rfl) (add_ok s x (hsn.sm (by omega))) (by simp [AV.okB])))))));all_goals ((try simp only [zb,za,reduceIte,Nat.reduceEqDiff]);(try ((repeat ((fail_if_success apply hK);clear hK K));apply hK;clear hK K)))
  all_goals repeat' (first|refine T.zh fun K hK=>?_|apply T.block|(refine T.reg (by kernel_rfl) fun K' hK'=>?_;simp only [bz];(with_reducible repeat' (first|(apply WL.fin;apply hK';clear hK' K')|(refine WL.step fun K2 hK2=>?_;simp only [simprocAttr,az];repeat' (first|(apply hK2;clear hK2 K2)|apply And.intro|intro hb)))))|apply T.skip|apply T.exit|refine T.zg rfl ?_|refine T.zf rfl ?_|refine T.cond rfl (fun hc=>?_) (fun hc=>?_)|apply T.ret|simp only [zb,za,reduceIte,Nat.reduceEqDiff]|((repeat ((fail_if_success apply hK);clear hK K));apply hK;clear hK K))
  ·have hf:(addB s x).2=false:=by simpa using hc
   refine zH.ret (.inr rfl) Tryz.results57 ?_;simp only [zw,zt,zq,simprocAttr,az,]
   rw [hn]
   simp [hf]
  ·refine hcont (by simpa using hc) _ ?_
   refine zk.of' rfl ?_;simp only [wks,reduceIte,Nat.reduceEqDiff,ASt.okB,AV.okB,Nat.reduceLT,implies_true,zu (show k<1152921504606846976 by omega),rsC,List.map_cons,List.map_nil]
 ·have hd:decide ((k:Int)<(l.length:Int))=false:=by simpa using hlt
  rw [z2T hlt,goB] at hn
  repeat' (first|refine T.zh fun K hK=>?_|apply T.block|(refine T.reg (by kernel_rfl) fun K' hK'=>?_;simp only [bz];(with_reducible repeat' (first|(apply WL.fin;apply hK';clear hK' K')|(refine WL.step fun K2 hK2=>?_;simp only [simprocAttr,az,hd];repeat' (first|(apply hK2;clear hK2 K2)|apply And.intro|intro hb)))))|apply T.skip|apply T.exit|refine T.zg rfl ?_|refine T.zf rfl ?_|refine T.cond rfl (fun hc=>?_) (fun hc=>?_)|apply T.ret|simp only [zb,za,reduceIte,Nat.reduceEqDiff]|((repeat ((fail_if_success apply hK);clear hK K));apply hK;clear hK K))
  refine zH.ret (.inr rfl) Tryz.results57 ?_;simp only [zw,zt,zq,simprocAttr,az,]
  rw [hn]
  have:k=l.length:=by omega
  simp [this]
theorem validT_ok (l:List Ev) (hl:l.length≤1000000):zx Tryz.prog 42 [.p (.seq 9 (l.map evC))] (.bool (qo l).2):=by
 refine zx.of Tryz.func42 rfl 11 rfl (by decide) (by simp [AV.okB]) ?_
 repeat' (first|refine T.zh fun K hK=>?_|apply T.block|(refine T.reg (by kernel_rfl) fun K' hK'=>?_;simp only [bz];(repeat' (first|(with_reducible refine WL.fin ?_;apply hK';clear hK' K')|((with_reducible refine WL.step fun K2 hK2=>?_);simp only [simprocAttr,az];(repeat' (first|with_reducible (first|(apply hK2;clear hK2 K2)|apply And.intro|intro hb)|((with_reducible first|apply zl|apply zm);case h=>exact CallV.plain (Ent.of Tryz.func57 (by kernel_rfl) rfl) (check_ok l hl) (by simp [AV.okB]))))))))|apply T.skip|apply T.exit|refine T.zg rfl ?_|refine T.zf rfl ?_|refine T.cond rfl (fun hc=>?_) (fun hc=>?_)|apply T.ret|simp only [zb,za,reduceIte,Nat.reduceEqDiff]|((repeat ((fail_if_success apply hK);clear hK K));apply hK;clear hK K))
 all_goals (refine zH.ret (.inr rfl) Tryz.results42 ?_;simp only [zw,zt,zq,simprocAttr,az,])
structure Ch where
 cap:Int
 sent:Int
 recv:Int
 closed:Bool
structure Mu where
 locked:Bool
 readers:Int
structure Gp where
 kinds:List Int
 obj:Int
 k:Int
 n:Int
 snd:Int
 rcv:Int
structure Ps where
 ev:Int
 gor:Int
 ch:Int→Option Ch
 mu:Int→Int→Option Mu
 dn:Int→Int→Bool
 op:Gp
def ch0:Ch:=⟨0,0,0,false⟩
def mu0:Mu:=⟨false,0⟩
def gp0:Gp:=⟨[],0,0,0,0,0⟩
def ps0:Ps:=⟨0,1,fun _=>none,fun _ _=>none,fun _ _=>false,gp0⟩
def qF (s:Ps) (o:Int) (c:Ch):Ps := { s with ch:=fun x=>if x=o then some c else s.ch x }
def setMu (s:Ps) (o f:Int) (m:Mu):Ps := { s with mu:=fun x y=>if x=o∧y=f then some m else s.mu x y }
def za4 (s:Ps) (o f:Int):Ps := { s with dn:=fun x y=>decide (x=o∧y=f)||s.dn x y }
def z0e (s:Ps) (g:Gp):Ps := { s with op:=g }
abbrev wI (x:Int):Int:=IntKind.i64.wrap x
def qx (c:Ch) (kind:Int):Ch:=if kind==15 then { c with sent:=wI (c.sent+1) } else if kind==17 then { c with recv:=wI (c.recv+1) } else c
def countP (s:Ps) (e:Ev):Ps:=qF s e.obj (qx ((s.ch e.obj).getD ch0) e.kind)
def qj (kind:Int):Bool:=kind==15||kind==16
def ownP (s r:Int) (kind:Int):Int:=if qj kind=true then s else r
def othP (s r:Int) (kind:Int):Int:=if qj kind=true then r else s
def badP (own oth g:Int):Bool:=(decide (own<0)&&g==oth)||(decide (0≤own)&&g != own)
def fitP (o:Gp) (kd:Int) (e:Ev):Bool := !(e.kind != kd||e.obj != o.obj||e.k != o.k||e.n != o.n)
def z0j (o:Gp) (e:Ev) (r:List Int):Gp:=if qj e.kind=true then { o with kinds:=r,snd:=e.g } else { o with kinds:=r,rcv:=e.g }
def z2j (s:Ps) (kd:Int) (r:List Int) (e:Ev):Option Ps :=
 if fitP s.op kd e=true∧badP (ownP s.op.snd s.op.rcv e.kind) (othP s.op.snd s.op.rcv e.kind) e.g=false then some (countP (z0e s (z0j s.op e r)) e) else none
def z1x (s:Ps) (e:Ev) (c:Ch) (kinds:List Int) (snd rcv:Int):Ps:=countP (z0e (qF s e.obj c) ⟨kinds,e.obj,e.k,e.n,snd,rcv⟩) e
def zY (s:Ps) (e:Ev):Ch:=(s.ch e.obj).getD { ch0 with cap:=e.n }
def qO (s:Ps) (e:Ev):Option Ps :=
 if (zY s e).cap != e.n then none
 else if e.kind==19 then (if (zY s e).closed=true then none else some (qF s e.obj { zY s e with closed:=true }))
 else if e.kind==20 then (if ((zY s e).closed&&(zY s e).sent==(zY s e).recv)=true then some s else none)
 else if e.kind==15 then
  (if ((zY s e).closed||e.k != (zY s e).sent)=true then none
  else if wI ((zY s e).sent-(zY s e).recv)<(zY s e).cap then some (z1x s e (zY s e) [16] e.g (-1))
  else if ((zY s e).cap==0 && !(s.gor==1))=true then some (z1x s e (zY s e) [17,18,16] e.g (-1))
  else none)
 else if e.kind==17 then
  (if (e.k != (zY s e).recv)=true then none
  else if (zY s e).recv<(zY s e).sent then some (z1x s e (zY s e) [18] (-1) e.g)
  else if (!(zY s e).closed && !(s.gor==1))=true then some (z1x s e (zY s e) [15,18,16] (-1) e.g)
  else none)
 else none
def muP (s:Ps) (e:Ev):Mu:=(s.mu e.obj e.off).getD mu0
def qN (s:Ps) (e:Ev):Option Ps :=
 if e.kind==6 then (if ((muP s e).locked||decide (0<(muP s e).readers))=true then none else some (setMu s e.obj e.off { muP s e with locked:=true }))
 else if e.kind==7 then (if (muP s e).locked=true then some (setMu s e.obj e.off { muP s e with locked:=false }) else none)
 else if e.kind==8 then (if (muP s e).locked=true then none else some (setMu s e.obj e.off { muP s e with readers:=wI ((muP s e).readers+1) }))
 else if e.kind==9 then (if ((muP s e).readers==0)=true then none else some (setMu s e.obj e.off { muP s e with readers:=wI ((muP s e).readers-1) }))
 else if e.kind==12 then (if s.dn e.obj e.off=true then none else some (za4 s e.obj e.off))
 else if e.kind==13 then (if s.dn e.obj e.off=true then some s else none)
 else if e.kind==14 then (if (e.k != s.gor)=true then none else some { s with gor:=wI (s.gor+1) })
 else some s
def z06 (s:Ps) (e:Ev):Option Ps:=match s.op.kinds with
 | kd :: r=>z2j s kd r e
 | []=>if zT e.kind=true then qO s e else qN s e
def z3A (s:Ps) (e:Ev):Bool := !qd e||decide (5000≤s.ev)||decide (s.gor≤e.g)
def addP (s:Ps) (e:Ev):Option Ps:=if z3A s e=true then none else (z06 s e).map fun t => { t with ev:=wI (t.ev+1) }
def goP (s:Ps):List Ev→Bool
 | []=>true
 | e :: r=>match addP s e with
  | some t=>goP t r
  | none=>false
def toCn (o:Int) (c:Ch):Cn:=⟨o,c.cap,c.sent,c.recv,c.closed⟩
def toLk (o f:Int) (m:Mu):Lk:=⟨o,f,m.locked,m.readers⟩
structure Gk (g:Gp) (r:Rs):Prop where
 kinds:g.kinds=r.next.map (·.kind)
 at' : r.next ≠ []→g.obj=r.obj∧g.k=r.k∧g.n=r.n
 own : ∀ w ∈ r.next,w.g=ownP g.snd g.rcv w.kind
 head : ∀ w l,r.next=w :: l→w.g<0→w.not=othP g.snd g.rcv w.kind ∧ 0≤othP g.snd g.rcv w.kind
 rest : ∀ w l,r.next=w :: l → 0≤w.g → ∀ x ∈ l,0≤x.g
 tail : ∀ x ∈ g.kinds.tail,x ≠ 15∧x ≠ 17
structure ChOk (g:Gp) (m:Int) (o:Int) (c:Ch):Prop where
 s0 : 0≤c.sent
 s1:c.sent≤m
 r0 : 0≤c.recv
 r1:c.recv≤m
 le:g.kinds.head? ≠ some 15∨o ≠ g.obj→c.recv≤c.sent
 le1:c.recv≤c.sent+1
 lt:g.kinds.head? = some 17∧o=g.obj→c.recv+1≤c.sent
structure Inv (s:Ps) (r:Rs) (m:Int):Prop where
 ev:s.ev=r.count
 gor:s.gor=r.gor
 ch : ∀ o n,qB o n r.chans=toCn o ((s.ch o).getD ⟨n,0,0,false⟩)
 mu : ∀ o f,qW o f r.locks=toLk o f ((s.mu o f).getD mu0)
 dn : ∀ o f,z8A r o f=s.dn o f
 op:Gk s.op r
 gr0 : 1≤s.gor∧s.gor≤m+1
 chb : ∀ o c,s.ch o=some c→ChOk s.op m o c
 mub : ∀ o f u,s.mu o f=some u → 0≤u.readers∧u.readers≤m
 has:s.op.kinds ≠ [] → ∃ c,s.ch s.op.obj=some c
theorem inv0:Inv ps0 rs0 0:=⟨rfl,rfl,fun _ _=>rfl,fun _ _=>rfl,fun _ _=>rfl,⟨rfl,fun h=>absurd rfl h,fun w h=>(by cases h),fun w l h=>(by cases h),fun w l h=>(by cases h),fun x h=>(by cases h)⟩,⟨by decide,by decide⟩,fun _ _ h=>(by cases h),fun _ _ _ h=>(by cases h),fun h=>absurd rfl h⟩
theorem ChOk.up {g:Gp} {m o:Int} {c:Ch} (h:ChOk g m o c):ChOk g (m+1) o c:=⟨h.s0,by have:=h.s1;omega,h.r0,by have:=h.r1;omega,h.le,h.le1,h.lt⟩
theorem Inv.up {s:Ps} {r:Rs} {m:Int} (h:Inv s r m):Inv s r (m+1):=⟨h.ev,h.gor,h.ch,h.mu,h.dn,h.op,⟨h.gr0.1,by have:=h.gr0.2;omega⟩,fun o c hc=>(h.chb o c hc).up,fun o f u hu=>⟨(h.mub o f u hu).1,by have:=(h.mub o f u hu).2;omega⟩,h.has⟩
theorem Inv.cnt {s:Ps} {r:Rs} {m:Int} (h:Inv s r m):Inv { s with ev:=wI (s.ev+1) } (cnt1 r) m:=⟨by simp [cnt1,h.ev],h.gor,h.ch,h.mu,h.dn,⟨h.op.kinds,h.op.at',h.op.own,h.op.head,h.op.rest,h.op.tail⟩,h.gr0,h.chb,h.mub,h.has⟩
theorem z7C (s:Rs) (c:Cn) (o n:Int):qB o n (setC s c).chans=if c.obj=o then c else qB o n s.chans:=by
 unfold setC
 simp only
 by_cases e:c.obj=o
 ·rw [if_pos e]
  have : ∀ l:List Cn,qB o n (l.filter (fun x=>x.obj != c.obj) ++ [c])=c:=by
   intro l
   induction l with
   | nil=>simp [qB,e]
   | cons x r ih =>
    by_cases hx:x.obj=c.obj
    ·rw [List.filter_cons_of_neg (by simp [hx])];exact ih
    ·rw [List.filter_cons_of_pos (by simp [hx]),List.cons_append,qB,if_neg (by simp;exact fun h=>hx (h.trans e.symm))];exact ih
  exact this _
 ·rw [if_neg e]
  have : ∀ l:List Cn,qB o n (l.filter (fun x=>x.obj != c.obj) ++ [c])=qB o n l:=by
   intro l
   induction l with
   | nil=>simp [qB,e]
   | cons x r ih =>
    by_cases hx:x.obj=c.obj
    ·rw [List.filter_cons_of_neg (by simp [hx]),ih,qB,if_neg (by simp;exact fun h=>e (hx.symm.trans h))]
    ·rw [List.filter_cons_of_pos (by simp [hx]),List.cons_append,qB,qB,ih]
  exact this _
theorem lockB_set (s:Rs) (c:Lk) (o f:Int):qW o f (setL s c).locks=if c.obj=o∧c.off=f then c else qW o f s.locks:=by
 unfold setL
 simp only
 by_cases e:c.obj=o∧c.off=f
 ·rw [if_pos e]
  obtain ⟨e1,e2⟩:=e
  have : ∀ l:List Lk,qW o f (l.filter (z2W c) ++ [c])=c:=by
   intro l
   induction l with
   | nil=>simp [qW,e1,e2]
   | cons x r ih =>
    by_cases hx:z2W c x=true
    ·rw [List.filter_cons_of_pos hx,List.cons_append,qW,if_neg ?_]
     ·exact ih
     ·intro h
      simp only [Bool.and_eq_true,beq_iff_eq] at h
      simp [z2W,h.1,h.2,e1,e2] at hx
    ·rw [List.filter_cons_of_neg hx];exact ih
  exact this _
 ·rw [if_neg e]
  have : ∀ l:List Lk,qW o f (l.filter (z2W c) ++ [c])=qW o f l:=by
   intro l
   induction l with
   | nil =>
    have:(c.obj==o&&c.off==f)=false:=by simpa using e
    simp [qW,this]
   | cons x r ih =>
    by_cases hx:z2W c x=true
    ·rw [List.filter_cons_of_pos hx,List.cons_append,qW,qW,ih]
    ·rw [List.filter_cons_of_neg hx,ih,qW,if_neg ?_]
     intro h
     simp only [Bool.and_eq_true,beq_iff_eq] at h
     simp only [z2W,Bool.or_eq_true,bne_iff_ne,ne_eq,not_or,Decidable.not_not] at hx
     exact e ⟨hx.1.symm.trans h.1,hx.2.symm.trans h.2⟩
  exact this _
theorem z5b {x:Int} (h0 : -10000≤x) (h1:x≤10000):wI x=x:=z4h (by omega) (by omega)
theorem z8X (s:Ps) (o f:Int) (u:Mu) (o' f' : Int):(setMu s o f u).mu o' f' = if o' = o∧f' = f then some u else s.mu o' f':=rfl
theorem z2O (s:Ps) (o:Int) (c:Ch) (o' : Int):(qF s o c).ch o' = if o' = o then some c else s.ch o':=rfl
theorem Inv.muTo {s:Ps} {r:Rs} {m:Int} (h:Inv s r m) (o f:Int) (u:Mu) (h0 : 0≤u.readers) (h1:u.readers≤m):Inv (setMu s o f u) (setL r (toLk o f u)) m:=by
 refine ⟨h.ev,h.gor,h.ch,fun o' f'=>?_,h.dn,⟨h.op.kinds,h.op.at',h.op.own,h.op.head,h.op.rest,h.op.tail⟩,h.gr0,h.chb,fun o' f' u' hu=>?_,h.has⟩
 ·rw [lockB_set,z8X]
  by_cases e:o' = o∧f' = f
  ·rw [if_pos e,if_pos (show (toLk o f u).obj=o' ∧ (toLk o f u).off=f' from ⟨e.1.symm,e.2.symm⟩),e.1,e.2];rfl
  ·rw [if_neg e,if_neg (fun h:(toLk o f u).obj=o' ∧ (toLk o f u).off=f'=>e ⟨h.1.symm,h.2.symm⟩)];exact h.mu o' f'
 ·rw [z8X] at hu
  split at hu
  ·cases hu;exact ⟨h0,h1⟩
  ·exact h.mub o' f' u' hu
theorem Inv.chTo {s:Ps} {r:Rs} {m:Int} (h:Inv s r m) (o:Int) (c:Ch) (hc:ChOk s.op m o c):Inv (qF s o c) (setC r (toCn o c)) m:=by
 refine ⟨h.ev,h.gor,fun o' n=>?_,h.mu,h.dn,⟨h.op.kinds,h.op.at',h.op.own,h.op.head,h.op.rest,h.op.tail⟩,h.gr0,fun o' c' hc'=>?_,h.mub,fun hk=>?_⟩
 ·rw [z7C,z2O]
  by_cases e:o' = o
  ·rw [if_pos e,if_pos (show (toCn o c).obj=o' from e.symm),e];rfl
  ·rw [if_neg e,if_neg (fun h:(toCn o c).obj=o'=>e h.symm)];exact h.ch o' n
 ·rw [z2O] at hc'
  split at hc'
  ·rename_i e;cases hc';rw [e];exact hc
  ·exact h.chb o' c' hc'
 ·rw [z2O]
  show ∃ c',(if s.op.obj=o then some c else s.ch s.op.obj)=some c'
  split
  ·exact ⟨_,rfl⟩
  ·exact h.has hk
theorem Inv.sameCh {s:Ps} {r:Rs} {m:Int} (h:Inv s r m) (o:Int) (c:Ch) (hc:s.ch o=some c):Inv (Go.Proofs.YtdlgoofjechocaaGreatDoor.qF s o c) r m:=by
 have e:Go.Proofs.YtdlgoofjechocaaGreatDoor.qF s o c=s:=by
  have:(fun x=>if x=o then some c else s.ch x)=s.ch:=by funext x;split;(rename_i e;rw [e,hc]);rfl
  simp only [Go.Proofs.YtdlgoofjechocaaGreatDoor.qF,this]
 rw [e];exact h
theorem Inv.countP {s:Ps} {r:Rs} {m:Int} (h:Inv s r m) (e:Ev) (c:Ch) (hc:s.ch e.obj=some c) (hm:m≤5000) (h15:e.kind=15→c.sent+1≤m→ChOk s.op m e.obj { c with sent:=c.sent+1 }) (h17:e.kind=17→c.recv+1≤m→ChOk s.op m e.obj { c with recv:=c.recv+1 })
  (hb:(e.kind=15→c.sent+1≤m)∧(e.kind=17→c.recv+1≤m)):Inv (countP s e) (z02 r e) m:=by
 have hok:=h.chb _ _ hc
 have hcb:=h.ch e.obj e.n
 rw [hc,Option.getD_some] at hcb
 unfold Go.Proofs.YtdlgoofjechocaaGreatDoor.countP z02 qx
 rw [hc,Option.getD_some,hcb]
 by_cases k15:e.kind=15
 ·have hs:=hok.s0
  have:=hb.1 k15
  rw [if_pos (by simp [k15]),if_pos (by simp [k15]),z5b (by omega) (by omega)]
  have:=h.chTo e.obj { c with sent:=c.sent+1 } (h15 k15 (hb.1 k15))
  have e2:z9X (toCn e.obj c)=toCn e.obj { c with sent:=c.sent+1 }:=by simp [z9X,toCn,z4h (show -9223372036854775808≤c.sent+1 by omega) (by omega)]
  rw [e2];exact this
 ·by_cases k17:e.kind=17
  ·have hs:=hok.r0
   have:=hb.2 k17
   rw [if_neg (by simp [k15]),if_pos (by simp [k17]),if_neg (by simp [k15]),if_pos (by simp [k17]),z5b (by omega) (by omega)]
   have:=h.chTo e.obj { c with recv:=c.recv+1 } (h17 k17 (hb.2 k17))
   have e2:za7 (toCn e.obj c)=toCn e.obj { c with recv:=c.recv+1 }:=by simp [za7,toCn,z4h (show -9223372036854775808≤c.recv+1 by omega) (by omega)]
   rw [e2];exact this
  ·rw [if_neg (by simp [k15]),if_neg (by simp [k17]),if_neg (by simp [k15]),if_neg (by simp [k17])]
   exact h.sameCh _ _ hc
theorem chan_at {s:Ps} {r:Rs} {m:Int} (h:Inv s r m) (e:Ev):qB e.obj e.n r.chans=toCn e.obj (zY s e):=h.ch e.obj e.n
def kindP (e:Ev):Bool :=
 if (e.kind==14)=true then e.obj==0&&e.off==0&&e.n==0&&decide (1≤e.k)&&decide (e.k<8)
 else if zT e.kind=true then e.off==0&&decide (e.n≤64)&&(e.k==0||z11 e.kind)
 else e.k==0&&e.n==0
theorem kindP_eq (e:Ev):kindB e=kindP e:=by
 unfold kindB kindP zT z11
 by_cases h1:e.kind=14
 ·simp only [h1,beq_self_eq_true,reduceIte];rfl
 ·have h1' : (e.kind==14)=false:=by simpa using h1
  rw [h1']
  by_cases h2 : 15≤e.kind∧e.kind≤18
  ·have h3:(e.kind==15||e.kind==16||e.kind==17||e.kind==18)=true:=by simp;omega
   have h4:(decide (15≤e.kind)&&decide (e.kind≤20))=true:=by simp;omega
   have h5:(decide (15≤e.kind)&&decide (e.kind≤18))=true:=by simp;omega
   simp only [h3,h4,h5,Bool.false_eq_true,reduceIte,Bool.or_true,Bool.and_true]
  ·have h3:(e.kind==15||e.kind==16||e.kind==17||e.kind==18)=false:=by simp;omega
   have h5:(decide (15≤e.kind)&&decide (e.kind≤18))=false:=by simp;omega
   by_cases h4:e.kind=19∨e.kind=20
   ·have h6:(decide (15≤e.kind)&&decide (e.kind≤20))=true:=by simp;omega
    have h7:(e.kind==19||e.kind==20)=true:=by simpa using h4
    simp only [h3,h5,h6,h7,Bool.false_eq_true,reduceIte,Bool.or_false]
    cases (e.off==0) <;> cases (e.k==0) <;> simp
   ·have h6:(decide (15≤e.kind)&&decide (e.kind≤20))=false:=by simp;omega
    have h7:(e.kind==19||e.kind==20)=false:=by simpa using h4
    simp only [h3,h5,h6,h7,Bool.false_eq_true,reduceIte]
def begP (e:Ev):Bool := !(!z3l e.kind||decide (e.g<0)||decide (8≤e.g))
theorem begP_eq (e:Ev):z3x e=begP e:=by
 unfold z3x begP z0i z3l
 rw [Bool.eq_iff_iff]
 simp
 omega
theorem flds_ok (e:Ev):((z1F e).map fun x=>AV.int x).all (AV.okB 1)=true:=by simp [AV.okB]
theorem z5d (e:Ev):zx Tryz.prog 25 [evA e] (.bool (qd e)):=by
 simp only [evA,evC,List.map_cons,List.map_nil]
 refine zx.of Tryz.func25 rfl 101 rfl (by decide) (by simp [AV.okB]) ?_
 by_cases hh:begP e=true
 ·have h1:decide (e.g<0)=false:=by simp_all [begP]
  have h2:decide (8≤e.g)=false:=by simp_all [begP]
  have h3:z3l e.kind=true:=by simp_all [begP]
  repeat' (first|refine T.zh fun K hK=>?_|apply T.block|(refine T.reg (by kernel_rfl) fun K' hK'=>?_;simp only [bz];(repeat' (first|(with_reducible refine WL.fin ?_;apply hK';clear hK' K')|((with_reducible refine WL.step fun K2 hK2=>?_);simp only [Nat.reduceEqDiff,Nat.reduceLT,Nat.reduceLeDiff,Nat.reduceAdd,reduceIte,reduceCtorEq,implies_true,Int.reduceEq,Int.reduceNe,Int.reduceLT,Int.reduceLE,Int.reduceSub,Int.reduceAdd,Nat.reduceMul,Nat.reduceMod,amz,tys,h1,h2,h3,Nat.reduceDiv];(repeat' (first|with_reducible (first|(apply hK2;clear hK2 K2)|apply And.intro|intro hb)|((with_reducible first|apply zl|apply zm);case h=>exact CallV.plain (Ent.of Tryz.func39 (by kernel_rfl) rfl) (z7G _) (by simp [AV.okB]))))))))|apply T.skip|apply T.exit|refine T.zg rfl ?_|refine T.zf rfl ?_|refine T.cond rfl (fun hc=>?_) (fun hc=>?_)|apply T.ret|simp only [zb,za,reduceIte,Nat.reduceEqDiff]|((repeat ((fail_if_success apply hK);clear hK K));apply hK;clear hK K))
  refine T.qC (fun k:Nat=>⟨[(0,evA e),(1,.ptr 0 0),(2,.bool false),(33,.agg ((z1F e).map fun x => .int x)),(34,.int k)],[(0,.box 30 ((evC e).map .p))],101,1⟩) (fun k=>k≤7∧(z1F e).all okF=((z1F e).drop k).all okF) (fun k => 7-k) 0 ⟨Nat.zero_le _,rfl⟩ (by refine zk.of' rfl ?_;simp only [wks,reduceIte,Nat.reduceEqDiff,ASt.okB,AV.okB,Nat.reduceLT,implies_true,Int.natCast_zero,evA,evC,z1F,List.map_cons,List.map_nil]) ?_
  rintro k ⟨hk,hn⟩ KL hKL
  simp only [evA,evC,List.map_cons,List.map_nil]
  by_cases hlt:k<7
  ·have hlen:k<(z1F e).length:=hlt
   obtain ⟨x,hx⟩:=zQ hlen
   have hd:decide ((k:Int)<7)=true:=by simp;omega
   have hk0:(k:Int)<((7:Nat):Int):=by omega
   have hxm:((z1F e)[k*1]?)=some x:=by rw [Nat.mul_one];exact hx
   rw [drop_at hx,List.all_cons] at hn
   have hcont:okF x=true → ∀ s',zk s' _→KL s':=fun h s' hw=>hKL s' (k+1) hw ⟨by omega,by rw [hn,h];rfl⟩ (by omega)
   have hbad:okF x=false→qd e=false:=fun h=>by simp [qd,hn,h]
   repeat' (first|refine T.zh fun K hK=>?_|apply T.block|(refine T.reg (by kernel_rfl) fun K' hK'=>?_;simp only [bz];(with_reducible repeat' (first|(apply WL.fin;apply hK';clear hK' K')|(refine WL.step fun K2 hK2=>?_;simp only [Nat.reduceEqDiff,Nat.reduceLT,Nat.reduceLeDiff,Nat.reduceAdd,reduceIte,reduceCtorEq,implies_true,Int.reduceEq,Int.reduceNe,Int.reduceLT,Int.reduceLE,Int.reduceSub,Int.reduceAdd,Nat.reduceMul,Nat.reduceMod,amz,tys,hxm,hd,hk0,Option.map_some];repeat' (first|(apply hK2;clear hK2 K2)|apply And.intro|intro hb)))))|apply T.skip|apply T.exit|refine T.zg rfl ?_|refine T.zf rfl ?_|refine T.cond rfl (fun hc=>?_) (fun hc=>?_)|apply T.ret|simp only [zb,za,reduceIte,Nat.reduceEqDiff]|((repeat ((fail_if_success apply hK);clear hK K));apply hK;clear hK K))
   all_goals first
    | ((refine zH.ret (.inr rfl) Tryz.results25 ?_;simp only [zw,zt,zq,Nat.reduceEqDiff,Nat.reduceLT,Nat.reduceLeDiff,Nat.reduceAdd,reduceIte,reduceCtorEq,implies_true,Int.reduceEq,Int.reduceNe,Int.reduceLT,Int.reduceLE,Int.reduceSub,Int.reduceAdd,Nat.reduceMul,Nat.reduceMod,amz,tys,]);rw [hbad];(focus (simp [okF, *];done)))
    | (refine hcont ?_ _ ?_;(focus (simp_all [okF];done));refine zk.of' rfl ?_;simp only [wks,reduceIte,Nat.reduceEqDiff,ASt.okB,AV.okB,Nat.reduceLT,implies_true,zu (show k<1152921504606846976 by omega),flds_ok,evA,evC,List.map_cons,List.map_nil];done)
  ·have hd:decide ((k:Int)<7)=false:=by simp;omega
   have hk7:k=7:=by omega
   have hn' : (z1F e).all okF=true:=by rw [hn,hk7];rfl
   have hv:qd e=kindP e:=by simp [qd,begP_eq,hh,hn',← kindP_eq]
   rw [hv]
   repeat' (first|refine T.zh fun K hK=>?_|apply T.block|(refine T.reg (by kernel_rfl) fun K' hK'=>?_;simp only [bz];(repeat' (first|(with_reducible refine WL.fin ?_;apply hK';clear hK' K')|((with_reducible refine WL.step fun K2 hK2=>?_);simp only [Nat.reduceEqDiff,Nat.reduceLT,Nat.reduceLeDiff,Nat.reduceAdd,reduceIte,reduceCtorEq,implies_true,Int.reduceEq,Int.reduceNe,Int.reduceLT,Int.reduceLE,Int.reduceSub,Int.reduceAdd,Nat.reduceMul,Nat.reduceMod,amz,tys,hd];(repeat' (first|with_reducible (first|(apply hK2;clear hK2 K2)|apply And.intro|intro hb)|((with_reducible first|apply zl|apply zm);case h=>exact CallV.plain (Ent.of Tryz.func26 (by kernel_rfl) rfl) (z2R _) (by simp [AV.okB]))|((with_reducible first|apply zl|apply zm);case h=>exact CallV.plain (Ent.of Tryz.func40 (by kernel_rfl) rfl) (z4S _) (by simp [AV.okB]))))))))|apply T.skip|apply T.exit|refine T.zg rfl ?_|refine T.zf rfl ?_|refine T.cond rfl (fun hc=>?_) (fun hc=>?_)|apply T.ret|simp only [zb,za,reduceIte,Nat.reduceEqDiff]|((repeat ((fail_if_success apply hK);clear hK K));apply hK;clear hK K))
   all_goals first
    | ((refine zH.ret (.inr rfl) Tryz.results25 ?_;simp only [zw,zt,zq,Nat.reduceEqDiff,Nat.reduceLT,Nat.reduceLeDiff,Nat.reduceAdd,reduceIte,reduceCtorEq,implies_true,Int.reduceEq,Int.reduceNe,Int.reduceLT,Int.reduceLE,Int.reduceSub,Int.reduceAdd,Nat.reduceMul,Nat.reduceMod,amz,tys,]);simp [kindP, *];done)
    | (exfalso;simp_all;done)
 ·have hh' : begP e=false:=by simpa using hh
  have hv:qd e=false:=by simp [qd,begP_eq,hh']
  rw [hv]
  repeat' (first|refine T.zh fun K hK=>?_|apply T.block|(refine T.reg (by kernel_rfl) fun K' hK'=>?_;simp only [bz];(repeat' (first|(with_reducible refine WL.fin ?_;apply hK';clear hK' K')|((with_reducible refine WL.step fun K2 hK2=>?_);simp only [Nat.reduceEqDiff,Nat.reduceLT,Nat.reduceLeDiff,Nat.reduceAdd,reduceIte,reduceCtorEq,implies_true,Int.reduceEq,Int.reduceNe,Int.reduceLT,Int.reduceLE,Int.reduceSub,Int.reduceAdd,Nat.reduceMul,Nat.reduceMod,amz,tys];(repeat' (first|with_reducible (first|(apply hK2;clear hK2 K2)|apply And.intro|intro hb)|((with_reducible first|apply zl|apply zm);case h=>exact CallV.plain (Ent.of Tryz.func39 (by kernel_rfl) rfl) (z7G _) (by simp [AV.okB]))))))))|apply T.skip|apply T.exit|refine T.zg rfl ?_|refine T.zf rfl ?_|refine T.cond rfl (fun hc=>?_) (fun hc=>?_)|apply T.ret|simp only [zb,za,reduceIte,Nat.reduceEqDiff]|((repeat ((fail_if_success apply hK);clear hK K));apply hK;clear hK K))
  all_goals first
   | ((refine zH.ret (.inr rfl) Tryz.results25 ?_;simp only [zw,zt,zq,Nat.reduceEqDiff,Nat.reduceLT,Nat.reduceLeDiff,Nat.reduceAdd,reduceIte,reduceCtorEq,implies_true,Int.reduceEq,Int.reduceNe,Int.reduceLT,Int.reduceLE,Int.reduceSub,Int.reduceAdd,Nat.reduceMul,Nat.reduceMod,amz,tys,]);done)
   | (exfalso;simp_all [begP];done)
end Go.Proofs.YtdlgoofjechocaaGreatDoor
