/- Texts Qf, Av, Ba, Qg, Bc, Ui, Ul. -/
import Derived.Shelf.SlSortCmp.Whole1
import Derived.Shelf.SlSortCmp.NoneTotal
import Derived.Ground.SlsfProg
import Derived.Test.YtdlgoofjechocaaGreatDoorZ11
set_option maxHeartbeats 32000000
set_option maxRecDepth 100000
set_option linter.unusedSimpArgs false
set_option linter.unusedVariables false
namespace Go.Proofs.YtdlgoofjechocaaGreatDoor
open Go.RowKit Go.Sort
theorem z5i : ∀ (r:List Ed) (p y:Ed),cmpF p (r ++ [y])=cmpF p r++if eqE y ((p :: r).getLast (by simp)) then [] else [y]
 | [],p,y=>by
  by_cases h:eqE y p=true <;> simp [cmpF,h]
 | z :: r,p,y=>by
  rw [List.cons_append,cmpF,cmpF,List.getLast_cons (by simp)]
  split
  ·rw [z5i r z y]
  ·rw [z5i r z y];rfl
theorem z5Z {S:List Ed} {m:Nat} {y z:Ed} (hm : 0<m) (hy:S[m]? = some y) (hz:S[m-1]? = some z):z2Z (S.take (m+1))=z2Z (S.take m)++if eqE y z then [] else [y]:=by
 cases S with
 | nil=>simp at hy
 | cons p r =>
  obtain ⟨q,rfl⟩ : ∃ q,m=q+1:=⟨m-1,by omega⟩
  rw [List.take_succ_cons,List.take_succ_cons,z2Z,z2Z,List.cons_append]
  have hy' : r[q]? = some y:=by simpa using hy
  have hql:=(List.getElem?_eq_some_iff.1 hy').1
  rw [List.take_add_one,hy',Option.toList_some,z5i]
  congr 3
  have:(p :: r.take q).getLast (by simp)=z:=by
   have h1:(p :: r.take q)[q]? = some z:=by
    simp only [Nat.add_sub_cancel] at hz
    rw [← List.take_succ_cons,List.getElem?_take,if_pos (by omega)]
    exact hz
   rw [List.getLast_eq_getElem]
   have hlen:(p :: r.take q).length=q+1:=by simp;omega
   have h2:=(List.getElem?_eq_some_iff.1 h1).2
   simp only [hlen,Nat.add_sub_cancel]
   exact h2
  rw [this]
theorem eqP_ok (x y:Ed):zx Tryz.prog 51 [.agg ((edC x).map .p),.agg ((edC y).map .p)] (.bool (eqE x y)):=by
 simp only [edC,List.map_cons,List.map_nil]
 refine zx.of Tryz.func51 rfl 17 rfl (by decide) (by simp [AV.okB]) ?_
 repeat' (first|refine T.zh fun K hK=>?_|apply T.block|(refine T.reg (by kernel_rfl) fun K' hK'=>?_;simp only [bz];(with_reducible repeat' (first|(apply WL.fin;apply hK';clear hK' K')|(refine WL.step fun K2 hK2=>?_;simp only [simprocAttr,az];repeat' (first|(apply hK2;clear hK2 K2)|apply And.intro|intro hb)))))|apply T.skip|apply T.exit|refine T.zg rfl ?_|refine T.zf rfl ?_|refine T.cond rfl (fun hc=>?_) (fun hc=>?_)|apply T.ret|simp only [zb,za,reduceIte,Nat.reduceEqDiff]|((repeat ((fail_if_success apply hK);clear hK K));apply hK;clear hK K))
 all_goals (refine zH.ret (.inr rfl) Tryz.results51 ?_;simp only [zw,zt,zq,simprocAttr,az,];first|(simp [eqE, *];done)|(simp_all [eqE];done)|(simp_all [eqE];omega))
def cmpW (x y:Ed):Int:=if x.t ≠ y.t then IntKind.i64.wrap (x.t-y.t) else if x.f ≠ y.f then IntKind.i64.wrap (x.f-y.f) else IntKind.i64.wrap (x.k-y.k)
theorem alloc2 (w:World) (o1 o2:Obj):(w.alloc o1).alloc o2=grow (w.drewN 0) #[o1,o2]:=by
 unfold World.alloc grow World.drewN
 simp only [Array.push_eq_append,Array.append_assoc]
 rfl
theorem w64 (x:Int):wrap64 x=IntKind.i64.wrap x:=by rw [IntKind.wrap_i64];simp only [wrap64]
theorem cmpC (a b c a' b' c' : Int) (w:World):Calls Tryz.prog 49 #[.agg #[.int .i64 a,.int .i64 b,.int .i64 c],.agg #[.int .i64 a',.int .i64 b',.int .i64 c']] w fun e w'=>e = .returned (.int .i64 (if b ≠ b' then IntKind.i64.wrap (b-b') else if a ≠ a' then IntKind.i64.wrap (a-a') else IntKind.i64.wrap (c-c'))) ∧ ∃ q os,w' = grow (w.drewN q) os:=by
 go_enter Tryz.func49,Tryz.ntmps49
 by_cases h1:b=b'
 ·have g1:(b != b')=false:=by simpa using h1
  by_cases h2:a=a'
  ·have g2:(a != a')=false:=by simpa using h2
   rw [if_neg (fun h=>h h1),if_neg (fun h=>h h2)]
   go_wp2
   go_ret
   exact ⟨congrArg (fun z=>Ending.returned (Value.int .i64 z)) (w64 _),0,#[_,_],alloc2 _ _ _⟩
  ·have g2:(a != a')=true:=by simpa using h2
   rw [if_neg (fun h=>h h1),if_pos h2]
   go_wp2
   go_ret
   exact ⟨congrArg (fun z=>Ending.returned (Value.int .i64 z)) (w64 _),0,#[_,_],alloc2 _ _ _⟩
 ·have g1:(b != b')=true:=by simpa using h1
  rw [if_pos h1]
  go_wp2
  go_ret
  exact ⟨congrArg (fun z=>Ending.returned (Value.int .i64 z)) (w64 _),0,#[_,_],alloc2 _ _ _⟩
def CmQ (S:List Ed) (hp' : Hp) (r:AV):Prop := ∃ R',hp' = [(0,.row 66 3 R')]∧((r = .own 0∧R' = rowE (z2Z S)) ∨ ∃ m,r = .pre 0 m∧m≤R'.length ∧ 0<R'.length∧R'.take m=rowE (z2Z S))
structure C2 where
 k:Nat
 i:Nat
 R:List (List PV)
theorem z4C {S:List Ed} {k:Nat} {x:Ed} (h:S[k]? = some x):(rowE S)[k]? = some [PV.val (.int .i64 x.f),.val (.int .i64 x.t),.val (.int .i64 x.k)]:=rowE_at h
theorem z9D (S:List Ed) (hS:S.length≤100000000000):MemC Tryz.prog 50 1 [(0,.row 66 3 (rowE S))] [.own 0,.fn (.func 51) []] (CmQ S):=by
 have hRl:=z6U S
 by_cases h2:S.length<2
 ·have hd:decide ((S.length:Int)<2)=true:=by simp;omega
  have hc:z2Z S=S:=by
   cases S with
   | nil=>rfl
   | cons p r=>cases r with
    | nil=>rfl
    | cons q r=>simp at h2;omega
  refine MemC.of Tryz.func50 rfl 66 rfl (by decide) ?_;simp only [qi,frOf]
  repeat' (first|refine T.zh fun K hK=>?_|apply T.block|(refine T.reg (by kernel_rfl) fun K' hK'=>?_;simp only [bz];(with_reducible repeat' (first|(apply WL.fin;apply hK';clear hK' K')|(refine WL.step fun K2 hK2=>?_;simp only [simprocAttr,az,hRl,hd];repeat' (first|(apply hK2;clear hK2 K2)|apply And.intro|intro hb)))))|apply T.skip|apply T.exit|refine T.zg rfl ?_|refine T.zf rfl ?_|refine T.cond rfl (fun hc=>?_) (fun hc=>?_)|apply T.ret|simp only [zb,za,reduceIte,Nat.reduceEqDiff]|((repeat ((fail_if_success apply hK);clear hK K));apply hK;clear hK K))
  refine FinM.ret (s':=⟨[(4,.own 0)],[(0,.row 66 3 (rowE S))],66,1⟩) (r := .own 0) (.inr rfl) Tryz.results50 (by refine zk.of' rfl ?_;simp only [wks,reduceIte,Nat.reduceEqDiff,ASt.okB,AV.okB,Nat.reduceLT,implies_true,]) rfl ?_ ?_;(focus (simp only [zw,zt,zq,simprocAttr,az,];done))
  exact ⟨_,rfl,.inl ⟨rfl,by rw [hc]⟩⟩
 ·have hd:decide ((S.length:Int)<2)=false:=by simp;omega
  refine MemC.of Tryz.func50 rfl 66 rfl (by decide) ?_;simp only [qi,frOf]
  repeat' (first|refine T.zh fun K hK=>?_|apply T.block|(refine T.reg (by kernel_rfl) fun K' hK'=>?_;simp only [bz];(with_reducible repeat' (first|(apply WL.fin;apply hK';clear hK' K')|(refine WL.step fun K2 hK2=>?_;simp only [simprocAttr,az,hRl,hd];repeat' (first|(apply hK2;clear hK2 K2)|apply And.intro|intro hb)))))|apply T.skip|apply T.exit|refine T.zg rfl ?_|refine T.zf rfl ?_|refine T.cond rfl (fun hc=>?_) (fun hc=>?_)|apply T.ret|simp only [zb,za,reduceIte,Nat.reduceEqDiff]|((repeat ((fail_if_success apply hK);clear hK K));apply hK;clear hK K))
  refine T.qC (fun i:Nat=>⟨[(0,.own 0),(1,.fn (.func 51) []),(5,.int i)],[(0,.row 66 3 (rowE S))],66,1⟩) (fun i => 1≤i∧i≤S.length∧z2Z (S.take i)=S.take i) (fun i=>S.length-i) 1 ⟨Nat.le_refl _,by omega,?_⟩ (by refine zk.of' rfl ?_;simp only [wks,reduceIte,Nat.reduceEqDiff,ASt.okB,AV.okB,Nat.reduceLT,implies_true,Int.natCast_one]) ?_
  ·cases S with
   | nil=>rfl
   | cons p r=>rfl
  rintro i ⟨h1,hi,hci⟩ KL hKL
  by_cases hlt:i<S.length
  ·have hdi:decide ((i:Int)<(S.length:Int))=true:=by simpa using hlt
   obtain ⟨y,hy⟩:=zQ hlt
   obtain ⟨z,hz⟩:=zQ (show i-1<S.length by omega)
   have hw:IntKind.i64.wrap ((i:Int)-1)=((i-1:Nat):Int):=by rw [IntKind.wrap_i64];omega
   have m1:=z4C hy
   have m2:=z4C hz
   have he:=eqP_ok y z
   simp only [edC,List.map_cons,List.map_nil] at he
   have hnx:=z5Z (by omega) hy hz
   have hi1:i-1<S.length:=by omega
   cases heq:eqE y z with
   | false =>
    rw [heq] at he hnx
    repeat' (first|refine T.zh fun K hK=>?_|apply T.block|(refine T.reg (by kernel_rfl) fun K' hK'=>?_;simp only [bz];(with_reducible repeat' (first|(apply WL.fin;apply hK';clear hK' K')|(refine WL.step fun K2 hK2=>?_;simp only [simprocAttr,az,hRl,hdi];repeat' (first|(apply hK2;clear hK2 K2)|apply And.intro|intro hb)))))|apply T.skip|apply T.exit|refine T.zg rfl ?_|refine T.zf rfl ?_|refine T.cond rfl (fun hc=>?_) (fun hc=>?_)|apply T.ret|simp only [zb,za,reduceIte,Nat.reduceEqDiff]|((repeat ((fail_if_success apply hK);clear hK K));apply hK;clear hK K))
    refine T.drw 10 (by kernel_rfl) (by kernel_rfl) fun K' hK'=>?_;simp only [List.map_cons,List.map_nil];(repeat' (first|(with_reducible refine WL.fin ?_;apply hK';clear hK' K')|(with_reducible refine WD.fin ?_)|((with_reducible first|refine WL.step fun K2 hK2=>?_|refine WD.step fun K2 hK2=>?_);simp only [simprocAttr,az,hw,hRl,hlt,hi1,m1,m2];(repeat' (first|with_reducible (first|(apply hK2;clear hK2 K2)|apply And.intro|intro hb)|(refine Or.inl ⟨_,⟨(Ent.of Tryz.func51 (by kernel_rfl) rfl),he,by simp [AV.okB,AV.z0b]⟩,?_⟩))))));all_goals ((try simp only [zb,za,reduceIte,Nat.reduceEqDiff]);(try ((repeat ((fail_if_success apply hK);clear hK K));apply hK;clear hK K)))
    all_goals repeat' (first|refine T.zh fun K hK=>?_|apply T.block|(refine T.reg (by kernel_rfl) fun K' hK'=>?_;simp only [bz];(with_reducible repeat' (first|(apply WL.fin;apply hK';clear hK' K')|(refine WL.step fun K2 hK2=>?_;simp only [simprocAttr,az];repeat' (first|(apply hK2;clear hK2 K2)|apply And.intro|intro hb)))))|apply T.skip|apply T.exit|refine T.zg rfl ?_|refine T.zf rfl ?_|refine T.cond rfl (fun hc=>?_) (fun hc=>?_)|apply T.ret|simp only [zb,za,reduceIte,Nat.reduceEqDiff]|((repeat ((fail_if_success apply hK);clear hK K));apply hK;clear hK K))
    refine hKL _ (i+1) (by refine zk.of' rfl ?_;simp only [wks,reduceIte,Nat.reduceEqDiff,ASt.okB,AV.okB,Nat.reduceLT,implies_true,zu (show i<1152921504606846976 by omega),AV.z1b]) ⟨by omega,by omega,?_⟩ (by omega)
    rw [hnx,hci,List.take_add_one,hy];rfl
   | true =>
    rw [heq] at he hnx
    repeat' (first|refine T.zh fun K hK=>?_|apply T.block|(refine T.reg (by kernel_rfl) fun K' hK'=>?_;simp only [bz];(with_reducible repeat' (first|(apply WL.fin;apply hK';clear hK' K')|(refine WL.step fun K2 hK2=>?_;simp only [simprocAttr,az,hRl,hdi];repeat' (first|(apply hK2;clear hK2 K2)|apply And.intro|intro hb)))))|apply T.skip|apply T.exit|refine T.zg rfl ?_|refine T.zf rfl ?_|refine T.cond rfl (fun hc=>?_) (fun hc=>?_)|apply T.ret|simp only [zb,za,reduceIte,Nat.reduceEqDiff]|((repeat ((fail_if_success apply hK);clear hK K));apply hK;clear hK K))
    refine T.drw 10 (by kernel_rfl) (by kernel_rfl) fun K' hK'=>?_;simp only [List.map_cons,List.map_nil];(repeat' (first|(with_reducible refine WL.fin ?_;apply hK';clear hK' K')|(with_reducible refine WD.fin ?_)|((with_reducible first|refine WL.step fun K2 hK2=>?_|refine WD.step fun K2 hK2=>?_);simp only [simprocAttr,az,hw,hRl,hlt,hi1,m1,m2];(repeat' (first|with_reducible (first|(apply hK2;clear hK2 K2)|apply And.intro|intro hb)|(refine Or.inl ⟨_,⟨(Ent.of Tryz.func51 (by kernel_rfl) rfl),he,by simp [AV.okB,AV.z0b]⟩,?_⟩))))));all_goals ((try simp only [zb,za,reduceIte,Nat.reduceEqDiff]);(try ((repeat ((fail_if_success apply hK);clear hK K));apply hK;clear hK K)))
    have hsl : ¬ ((i:Int)=0∧False):=by simp
    have hlt1:i≤S.length:=Nat.le_of_lt hlt
    have hlt0 : 0<S.length:=by omega
    all_goals repeat' (first|refine T.zh fun K hK=>?_|apply T.block|(refine T.reg (by kernel_rfl) fun K' hK'=>?_;simp only [bz];(with_reducible repeat' (first|(apply WL.fin;apply hK';clear hK' K')|(refine WL.step fun K2 hK2=>?_;simp only [simprocAttr,az,hRl,hlt,hlt1,hlt0,false_and];repeat' (first|(apply hK2;clear hK2 K2)|apply And.intro|intro hb)))))|apply T.skip|apply T.exit|refine T.zg rfl ?_|refine T.zf rfl ?_|refine T.cond rfl (fun hc=>?_) (fun hc=>?_)|apply T.ret|simp only [zb,za,reduceIte,Nat.reduceEqDiff]|((repeat ((fail_if_success apply hK);clear hK K));apply hK;clear hK K))
    refine T.qC (fun c:C2=>⟨[(0,.own 0),(1,.fn (.func 51) []),(5,.int c.i),(6,.suf 0 3 i),(7,.int c.k)],[(0,.row 66 3 c.R)],66,1⟩) (fun c => 1≤c.k∧i+c.k≤S.length ∧ 1≤c.i∧c.i+1≤i+c.k∧c.R.length=S.length∧(∀ r ∈ c.R,r.length=3)∧c.R.take c.i=rowE (z2Z (S.take (i+c.k))) ∧ ∀ q,i+c.k≤q+1→c.R[q]? = (rowE S)[q]?) (fun c=>S.length-c.k) ⟨1,i,rowE S⟩ ⟨Nat.le_refl _,by simp only [];omega,h1,by simp only [];omega,hRl,?_,?_,fun q _=>rfl⟩ (by refine zk.of' rfl ?_;simp only [wks,reduceIte,Nat.reduceEqDiff,ASt.okB,AV.okB,Nat.reduceLT,implies_true,Int.natCast_one,AV.z1b]) ?_
    ·intro r hr
     obtain ⟨x,_,rfl⟩:=List.mem_map.1 hr;rfl
    ·simp only []
     rw [hnx,hci,if_pos rfl,List.append_nil,rowE,rowE,List.map_take]
    rintro ⟨k,i',R⟩ ⟨k1,k2,k3,k4,k5,k6,k7,k8⟩ KL2 hKL2
    simp only at k1 k2 k3 k4 k5 k6 k7 k8 ⊢
    by_cases hkl:i+k<S.length
    ·have hdk:decide ((k:Int)<((S.length-i:Nat):Int))=true:=by simp;omega
     obtain ⟨y2,hy2⟩:=zQ hkl
     obtain ⟨z2,hz2⟩:=zQ (show i+k-1<S.length by omega)
     have hwk:IntKind.i64.wrap ((k:Int)-1)=((k-1:Nat):Int):=by rw [IntKind.wrap_i64];omega
     have a1:=z4C hy2
     rw [← k8 (i+k) (by omega)] at a1
     have a2:=z4C hz2
     rw [← k8 (i+k-1) (by omega),show i+k-1=i+(k-1) by omega] at a2
     have l1:i+(k-1)<S.length:=by omega
     have hnx2:=z5Z (by omega) hy2 hz2
     have he2:=eqP_ok y2 z2
     simp only [edC,List.map_cons,List.map_nil] at he2
     obtain ⟨r0,hr0⟩:=zQ (show i' < R.length by omega)
     obtain ⟨ra,rb,rc,hrr⟩ : ∃ a b c,r0 = [a,b,c]:=by
      have:=k6 r0 (List.mem_of_getElem? hr0)
      match r0,this with
      | [a,b,c],_=>exact ⟨a,b,c,rfl⟩
     subst hrr
     have hil:i' < S.length:=by omega
     cases heq2:eqE y2 z2 with
     | true =>
      rw [heq2] at he2 hnx2
      repeat' (first|refine T.zh fun K hK=>?_|apply T.block|(refine T.reg (by kernel_rfl) fun K' hK'=>?_;simp only [bz];(with_reducible repeat' (first|(apply WL.fin;apply hK';clear hK' K')|(refine WL.step fun K2 hK2=>?_;simp only [simprocAttr,az,k5,hlt,hlt1,hlt0,hdk];repeat' (first|(apply hK2;clear hK2 K2)|apply And.intro|intro hb)))))|apply T.skip|apply T.exit|refine T.zg rfl ?_|refine T.zf rfl ?_|refine T.cond rfl (fun hc=>?_) (fun hc=>?_)|apply T.ret|simp only [zb,za,reduceIte,Nat.reduceEqDiff]|((repeat ((fail_if_success apply hK);clear hK K));apply hK;clear hK K))
      refine T.drw 10 (by kernel_rfl) (by kernel_rfl) fun K' hK'=>?_;simp only [List.map_cons,List.map_nil];(repeat' (first|(with_reducible refine WL.fin ?_;apply hK';clear hK' K')|(with_reducible refine WD.fin ?_)|((with_reducible first|refine WL.step fun K2 hK2=>?_|refine WD.step fun K2 hK2=>?_);simp only [simprocAttr,az,hwk,k5,hkl,l1,a1,a2];(repeat' (first|with_reducible (first|(apply hK2;clear hK2 K2)|apply And.intro|intro hb)|(refine Or.inl ⟨_,⟨(Ent.of Tryz.func51 (by kernel_rfl) rfl),he2,by simp [AV.okB,AV.z0b]⟩,?_⟩))))));all_goals ((try simp only [zb,za,reduceIte,Nat.reduceEqDiff]);(try ((repeat ((fail_if_success apply hK);clear hK K));apply hK;clear hK K)))
      all_goals repeat' (first|refine T.zh fun K hK=>?_|apply T.block|(refine T.reg (by kernel_rfl) fun K' hK'=>?_;simp only [bz];(with_reducible repeat' (first|(apply WL.fin;apply hK';clear hK' K')|(refine WL.step fun K2 hK2=>?_;simp only [simprocAttr,az];repeat' (first|(apply hK2;clear hK2 K2)|apply And.intro|intro hb)))))|apply T.skip|apply T.exit|refine T.zg rfl ?_|refine T.zf rfl ?_|refine T.cond rfl (fun hc=>?_) (fun hc=>?_)|apply T.ret|simp only [zb,za,reduceIte,Nat.reduceEqDiff]|((repeat ((fail_if_success apply hK);clear hK K));apply hK;clear hK K))
      refine hKL2 _ ⟨k+1,i',R⟩ (by refine zk.of' rfl ?_;simp only [wks,reduceIte,Nat.reduceEqDiff,ASt.okB,AV.okB,Nat.reduceLT,implies_true,zu (show k<1152921504606846976 by omega),AV.z1b]) ⟨by simp only [];omega,by simp only [];omega,k3,by simp only [];omega,k5,k6,?_,fun q hq=>k8 q (by simp only [] at hq;omega)⟩ (by simp only [];omega)
      simp only []
      rw [k7,← Nat.add_assoc,hnx2,if_pos rfl,List.append_nil]
     | false =>
      rw [heq2] at he2 hnx2
      repeat' (first|refine T.zh fun K hK=>?_|apply T.block|(refine T.reg (by kernel_rfl) fun K' hK'=>?_;simp only [bz];(with_reducible repeat' (first|(apply WL.fin;apply hK';clear hK' K')|(refine WL.step fun K2 hK2=>?_;simp only [simprocAttr,az,k5,hlt,hlt1,hlt0,hdk];repeat' (first|(apply hK2;clear hK2 K2)|apply And.intro|intro hb)))))|apply T.skip|apply T.exit|refine T.zg rfl ?_|refine T.zf rfl ?_|refine T.cond rfl (fun hc=>?_) (fun hc=>?_)|apply T.ret|simp only [zb,za,reduceIte,Nat.reduceEqDiff]|((repeat ((fail_if_success apply hK);clear hK K));apply hK;clear hK K))
      refine T.drw 10 (by kernel_rfl) (by kernel_rfl) fun K' hK'=>?_;simp only [List.map_cons,List.map_nil];(repeat' (first|(with_reducible refine WL.fin ?_;apply hK';clear hK' K')|(with_reducible refine WD.fin ?_)|((with_reducible first|refine WL.step fun K2 hK2=>?_|refine WD.step fun K2 hK2=>?_);simp only [simprocAttr,az,hwk,k5,hkl,l1,a1,a2];(repeat' (first|with_reducible (first|(apply hK2;clear hK2 K2)|apply And.intro|intro hb)|(refine Or.inl ⟨_,⟨(Ent.of Tryz.func51 (by kernel_rfl) rfl),he2,by simp [AV.okB,AV.z0b]⟩,?_⟩))))));all_goals ((try simp only [zb,za,reduceIte,Nat.reduceEqDiff]);(try ((repeat ((fail_if_success apply hK);clear hK K));apply hK;clear hK K)))
      all_goals repeat' (first|refine T.zh fun K hK=>?_|apply T.block|(refine T.reg (by kernel_rfl) fun K' hK'=>?_;simp only [bz];(with_reducible repeat' (first|(apply WL.fin;apply hK';clear hK' K')|(refine WL.step fun K2 hK2=>?_;simp only [simprocAttr,az,k5,hkl,hil,a1,hr0];repeat' (first|(apply hK2;clear hK2 K2)|apply And.intro|intro hb)))))|apply T.skip|apply T.exit|refine T.zg rfl ?_|refine T.zf rfl ?_|refine T.cond rfl (fun hc=>?_) (fun hc=>?_)|apply T.ret|simp only [zb,za,reduceIte,Nat.reduceEqDiff]|((repeat ((fail_if_success apply hK);clear hK K));apply hK;clear hK K))
      refine hKL2 _ ⟨k+1,i' + 1,R.set i' [PV.val (.int .i64 y2.f),.val (.int .i64 y2.t),.val (.int .i64 y2.k)]⟩ (by refine zk.of' rfl ?_;simp only [wks,reduceIte,Nat.reduceEqDiff,ASt.okB,AV.okB,Nat.reduceLT,implies_true,zu (show k<1152921504606846976 by omega),zu (show i' < 1152921504606846976 by omega),AV.z1b]) ⟨by simp only [];omega,by simp only [];omega,by simp only [];omega,by simp only [];omega,by simp only [List.length_set];exact k5,fun r hr=>?_,?_,fun q hq=>?_⟩ (by simp only [];omega)
      ·rcases List.mem_or_eq_of_mem_set hr with h|h
       ·exact k6 r h
       ·rw [h];rfl
      ·simp only []
       rw [← Nat.add_assoc,hnx2,if_neg (by simp),List.take_add_one,List.getElem?_set,if_pos rfl,if_pos (by omega),List.take_set_of_le (Nat.le_refl _),k7]
       simp [rowE,edC]
      ·simp only [] at hq ⊢
       rw [List.getElem?_set,if_neg (by omega)]
       exact k8 q (by omega)
    ·have hdk:decide ((k:Int)<((S.length-i:Nat):Int))=false:=by simp;omega
     have hie:i+k=S.length:=by omega
     rw [hie,List.take_of_length_le (Nat.le_refl _)] at k7
     have hil:i' < S.length:=by omega
     have hlc:(List.take i' R++List.replicate (S.length-i') [PV.val (.int .i64 0),.val (.int .i64 0),.val (.int .i64 0)]).length=S.length:=by simp;omega
     have hil2:((i' : Nat):Int)≤((S.length:Nat):Int):=by omega
     have hl0 : 0<S.length:=by omega
     repeat' (first|refine T.zh fun K hK=>?_|apply T.block|(refine T.reg (by kernel_rfl) fun K' hK'=>?_;simp only [bz];(with_reducible repeat' (first|(apply WL.fin;apply hK';clear hK' K')|(refine WL.step fun K2 hK2=>?_;simp only [simprocAttr,az,k5,hlt,hlt1,hlt0,hdk,hil,false_and,hlc,hil2,hl0];repeat' (first|(apply hK2;clear hK2 K2)|apply And.intro|intro hb)))))|apply T.skip|apply T.exit|refine T.zg rfl ?_|refine T.zf rfl ?_|refine T.cond rfl (fun hc=>?_) (fun hc=>?_)|apply T.ret|simp only [zb,za,reduceIte,Nat.reduceEqDiff]|((repeat ((fail_if_success apply hK);clear hK K));apply hK;clear hK K))
     refine FinM.ret (s':=⟨[(4,.pre 0 i')],[(0,.row 66 3 (List.take i' R++List.replicate (S.length-i') [PV.val (.int .i64 0),.val (.int .i64 0),.val (.int .i64 0)]))],66,1⟩) (r := .pre 0 i') (.inr rfl) Tryz.results50 (by refine zk.of' rfl ?_;simp only [wks,reduceIte,Nat.reduceEqDiff,ASt.okB,AV.okB,Nat.reduceLT,implies_true,]) rfl ?_ ?_;(focus (simp only [zw,zt,zq,simprocAttr,az,];done))
     refine ⟨_,rfl,.inr ⟨i',rfl,by rw [hlc];omega,by rw [hlc];exact hl0,?_⟩⟩
     rw [List.take_append_of_le_length (by rw [List.length_take];omega),List.take_take,Nat.min_self,k7]
  ·have hdi:decide ((i:Int)<(S.length:Int))=false:=by simpa using hlt
   have hie:i=S.length:=by omega
   subst hie
   rw [List.take_of_length_le (Nat.le_refl _)] at hci
   repeat' (first|refine T.zh fun K hK=>?_|apply T.block|(refine T.reg (by kernel_rfl) fun K' hK'=>?_;simp only [bz];(with_reducible repeat' (first|(apply WL.fin;apply hK';clear hK' K')|(refine WL.step fun K2 hK2=>?_;simp only [simprocAttr,az,hRl,hdi];repeat' (first|(apply hK2;clear hK2 K2)|apply And.intro|intro hb)))))|apply T.skip|apply T.exit|refine T.zg rfl ?_|refine T.zf rfl ?_|refine T.cond rfl (fun hc=>?_) (fun hc=>?_)|apply T.ret|simp only [zb,za,reduceIte,Nat.reduceEqDiff]|((repeat ((fail_if_success apply hK);clear hK K));apply hK;clear hK K))
   refine FinM.ret (s':=⟨[(4,.own 0)],[(0,.row 66 3 (rowE S))],66,1⟩) (r := .own 0) (.inr rfl) Tryz.results50 (by refine zk.of' rfl ?_;simp only [wks,reduceIte,Nat.reduceEqDiff,ASt.okB,AV.okB,Nat.reduceLT,implies_true,]) rfl ?_ ?_;(focus (simp only [zw,zt,zq,simprocAttr,az,];done))
   exact ⟨_,rfl,.inl ⟨rfl,by rw [hci]⟩⟩
end Go.Proofs.YtdlgoofjechocaaGreatDoor
namespace Go.Proofs.YtdlgoofjechocaaGreatDoor
open Go.RowKit Go.Sort Go.Shelf
def SortedL {α:Type} (cf : α → α→Int) (ks:List α):Prop:=ks.Pairwise fun x y => ¬ cf y x<0
def z5C {α:Type} (enc : α→List Value) (ks:List α):List (List PV):=ks.map fun x=>(enc x).map PV.val
theorem HRel.cong2 {L:Nat→Prop} {N:Nat} {hp hp' : Hp} {loc:Nat→Option Value} {w:World} (h:HRel L N hp loc w) (e : ∀ t,hp'.lookup t=hp.lookup t):HRel L N hp' loc w:=⟨fun t o ho=>h.at' t o (e t ▸ ho),fun t ho=>h.dead t (e t ▸ ho),h.apart,h.inL,h.notL⟩
theorem sort_memK {P:Program} {ρ:Ren} (S:SlLaysF0.n6 P ρ) (k:Nat) (aE : ∀ w,(isAgg (ρ.t 24)).run P w = .ok true w) (zE : ∀ w,(Go.sizeOf (ρ.t 24)).run P w = .ok k w) {α:Type} (enc : α→List Value) (hk : ∀ x,(enc x).length=k) (hk0 : 0<k) (h1 : ∀ x,∀ v ∈ enc x,v.oneCell' = true) (cf : α → α→Int) (hO:SWO (ltOf cf)) (g:Nat) (ks:List α) (hlen:ks.length<4611686018427387904) (eg:Ent P g)
  (hcmp : ∀ x y (w:World),Calls P g #[.agg (enc x).toArray,.agg (enc y).toArray] w fun e w'=>e = .returned (.int .i64 (cf x y)) ∧ ∃ q os,w' = grow (w.drewN q) os) (N:Nat) (hp:Hp) (t e:Nat) (hlk:hp.lookup t=some (.row e k (z5C enc ks))) :
  MemC P (ρ.f 6) N hp [.own t,.fn (.func g) []] fun hp' r=>r = .tup [] ∧ ∃ ks' : List α,ks'.Perm ks∧SortedL cf ks' ∧ hp' = zF hp t (.row e k (z5C enc ks')):=fun L loc w vs hh hvs=>by
 obtain ⟨htN,u,hu,hor⟩:=hh.at' t _ hlk
 obtain ⟨v0,v1,rfl⟩ : ∃ v0 v1,vs = [v0,v1]:=by
  match vs,hvs.1 with
  | [v0,v1],_=>exact ⟨v0,v1,rfl⟩
 have a0:=hvs.2 0 _ v0 rfl rfl
 have a1:=hvs.2 1 _ v1 rfl rfl
 cases a0 with
 | own _ _ _ _ hv =>
 obtain rfl:u=v0:=(hv u hu).symm
 cases a1 with
 | fn _ _ cvs hl _ =>
 obtain rfl:cvs = #[]:=Array.eq_empty_of_size_eq_zero (by simpa using hl)
 obtain ⟨flat,hown,hrn,hfl,hone⟩:=hor
 have hlr:(z5C enc ks).length=ks.length:=by simp [z5C]
 rw [hlr] at hown
 by_cases hne:ks = []
 ·subst hne
  obtain ⟨p,c,rfl⟩ : ∃ p c,u = .slice p 0 c:=by
   rcases hown.2 with ⟨rfl,_⟩|⟨b,cap,cur,rfl,_⟩
   ·exact ⟨_,_,rfl⟩
   ·exact ⟨_,_,rfl⟩
  refine Calls.mono (AnyF.slices_SortFunc_none S p c (.func (.func g) #[] #[]) w) ?_
  rintro ee w' ⟨rfl,rfl⟩
  refine ⟨_,loc,_,_,rfl,⟨rfl,[],.refl _,List.Pairwise.nil,rfl⟩,hh.cong2 fun x=>?_,.tup [] #[] rfl (fun j x hx=>by simp at hx),Ext.refl _ _⟩
  rw [zB]
  split
  ·rename_i e;subst e;rw [hlk];rfl
  ·rfl
 have hks0 : 0<ks.length:=List.length_pos_iff.2 hne
 rcases hown.2 with ⟨_,h0⟩|⟨b,cap,cur,rfl,_,hg,hle,hmx,hcs,htk⟩
 ·omega
 have hblt:b<w.heap.size:=(Array.getElem?_eq_some_iff.1 hg).1
 haveI:Inhabited α:=⟨ks[0]⟩
 have hflen:flat.length=ks.length*k:=hown.1
 let d:Array α:=ks.toArray
 have hd:d.size=ks.length:=by simp [d]
 have hdv : ∀ i (hi:i<ks.length),d[i]! = ks[i]:=fun i hi=>by rw [getElem!_pos d i (by rw [hd];exact hi)];simp [d]
 have hflat : ∀ q,q<ks.length*k→flat[q]? = some ((flatK enc k d)[q]!):=fun q hq=>by
  rw [get_flatK _ _ _ _ (by rw [hd];exact hq)]
  have hqk:q / k<ks.length:=Nat.div_lt_of_lt_mul (by rwa [Nat.mul_comm])
  have hqm:q % k<(enc ks[q / k]).length:=by rw [hk];exact Nat.mod_lt _ hk0
  obtain ⟨v,g1,g2⟩:=hfl (q / k) ((enc ks[q / k]).map PV.val) (q % k) (.val (enc ks[q / k])[q % k]) (by simp [z5C,List.getElem?_eq_getElem hqk]) (by rw [List.getElem?_map,List.getElem?_eq_getElem hqm];rfl)
  cases g2
  rw [hdv _ hqk,getElem!_pos (enc ks[q / k]) _ hqm,← g1]
  congr 1
  have:=Nat.div_add_mod q k
  rw [Nat.mul_comm] at this
  omega
 have hbD:Dm L loc b := .inr ⟨t,_,hu,rfl⟩
 have hH:HoldsK enc k w b 0 d:=fun j hj=>by
  rw [size_flatK,hd] at hj
  rw [Nat.zero_add]
  refine ⟨z4F hown (hflat j hj),?_⟩
  simp [World.frozen?,hg]
 have kpS : ∀ m (dk:Array α) os,Kp (fun k=>k=b) w (sortWorldK enc k w b 0 m dk os):=fun m dk os=>by
  refine ⟨rfl,rfl,rfl,?_,fun k hk hne=>?_⟩
  ·simp [sortWorldK,grow,putRowK,putRow,mapBlock,Sort.ahead]
  ·simp only [sortWorldK,grow,putRowK,putRow,mapBlock,Sort.ahead]
   rw [Array.getElem?_append_left (by simpa using hk),Array.getElem?_modify,if_neg (fun e=>hne e.symm)]
 have hagg : ∀ (W:World) (x : α),AR 0 (fun k=>k=b) z1Z W (.agg ((enc x).map fun v => .p (.val v))) (.agg (enc x).toArray):=fun W x=>by
  refine .agg _ _ (by simp) (fun j z hz=>?_) (fun j hj=>?_)
  ·simp only [List.getElem?_map,Option.map_eq_some_iff] at hz
   obtain ⟨v,hv,rfl⟩:=hz
   have hlt:=(List.getElem?_eq_some_iff.1 hv).1
   have:(enc x).toArray.getD j undef=v:=by
    rw [Array.getD_eq_getD_getElem?];simp [hv]
   rw [this]
   exact .p _ _ (.val v (h1 x v (List.mem_of_getElem? hv)))
  ·have hlt:j<(enc x).length:=by simpa using hj
   have:(enc x).toArray.getD j undef=(enc x)[j]:=by
    rw [Array.getD_eq_getD_getElem?];simp [hlt]
   rw [this]
   exact h1 x _ (List.getElem_mem hlt)
 have hcl:CmpLays P g #[] enc k cf b 0 d.size w:=fun m os dk hdk x y=>hcmp x y _
 have hS:=AnyQ.slices_SortFunc S k aE zE enc hk h1 cf hO g #[] b 0 cap d w eg hcl hH hblt (by rw [hd];exact hlen)
 rw [show #[Value.slice (some ⟨b,0,none⟩) d.size cap,.func (.func g) #[] #[]] = #[.slice (some ⟨b,0,none⟩) ks.length cap,.func (.func g) #[] #[]] by rw [hd]] at hS
 refine Calls.mono hS ?_
 rintro ee w' ⟨rfl,d',m,os,hperm,hsort,rfl⟩
 have hd' : d'.size=ks.length:=hperm.1.trans hd
 have kw:=kpS m d' os
 have hPd:d'.toList.Perm ks:=by
  have h:=hperm.2.2
  rw [show d'.extract 0 d.size=d' by rw [← hperm.1];simp,show d.extract 0 d.size=d by simp] at h
  simpa [d] using h
 have hrun:(sortWorldK enc k w b 0 m d' os).heap[b]? = some (.cells (putCells id 0 (flatK enc k d') cur) e (0,0)):=by
  simp only [sortWorldK,grow,putRowK,putRow,mapBlock,Sort.ahead]
  rw [Array.getElem?_append_left (by simpa using hblt),Array.getElem?_modify,if_pos rfl,hg]
  rfl
 have hcap:ks.length*k≤cap*k:=Nat.mul_le_mul_right k hle
 have hput : ∀ q,q<ks.length*k→(putCells id 0 (flatK enc k d') cur)[q]? = some ((flatK enc k d')[q]!):=fun q hq=>by
  have hc:q<cur.size:=by omega
  have hkd:q<(flatK enc k d').size:=by rw [size_flatK,hd'];exact hq
  simp only [putCells,Array.getElem?_mapIdx,Array.getElem?_eq_getElem hc,Option.map_some,Nat.zero_le,Nat.zero_add,true_and,if_pos hkd,Nat.sub_zero,id]
 have hfl2 : ∀ q,q<ks.length*k→(flatK enc k d').toList[q]? = some ((flatK enc k d')[q]!):=fun q hq=>by
  have hkd:q<(flatK enc k d').size:=by rw [size_flatK,hd'];exact hq
  rw [Array.getElem?_toList,Array.getElem?_eq_getElem hkd,getElem!_pos (flatK enc k d') _ hkd]
 have hown' : (sortWorldK enc k w b 0 m d' os).ownsRow 0 e k (.slice (some ⟨b,0,none⟩) ks.length cap) ks.length (flatK enc k d').toList:=by
  refine ⟨by simp [hd'],.inr ⟨b,cap,_,rfl,Nat.zero_le _,hrun,hle,hmx,by simp only [putCells,Array.size_mapIdx];exact hcs,?_⟩⟩
  apply List.ext_getElem?
  intro q
  rw [List.getElem?_take]
  split
  ·rename_i hq
   rw [Array.getElem?_toList,hput q hq,hfl2 q hq]
  ·rw [List.getElem?_eq_none];simp [hd'];omega
 have hor' : OR N (Dm L loc) loc (sortWorldK enc k w b 0 m d' os) (.slice (some ⟨b,0,none⟩) ks.length cap) (.row e k (z5C enc d'.toList)):=by
  refine ⟨(flatK enc k d').toList,by simpa [z5C,hd'] using hown',fun r hr=>?_,fun q r j x hq hx=>?_,fun v hv=>?_⟩
  ·obtain ⟨y,_,rfl⟩:=List.mem_map.1 hr;rw [List.length_map,hk]
  ·simp only [z5C,List.getElem?_map,Option.map_eq_some_iff] at hq
   obtain ⟨y,hy,rfl⟩:=hq
   simp only [List.getElem?_map,Option.map_eq_some_iff] at hx
   obtain ⟨v,hv,rfl⟩:=hx
   have hql:q<ks.length:=by have:=(List.getElem?_eq_some_iff.1 hy).1;simp at this;omega
   have hjl:=(List.getElem?_eq_some_iff.1 hv).1
   rw [hk] at hjl
   have hlt:q*k+j<ks.length*k:=by
    have:(q+1)*k≤ks.length*k:=Nat.mul_le_mul_right _ hql
    rw [Nat.add_mul] at this
    omega
   refine ⟨v,?_,.val v (h1 y v (List.mem_of_getElem? hv))⟩
   rw [hfl2 _ hlt,get_flatK _ _ _ _ (by rw [hd'];exact hlt)]
   have e1:(q*k+j) / k=q:=by rw [Nat.mul_comm,Nat.mul_add_div (by omega),Nat.div_eq_of_lt hjl];rfl
   have e2:(q*k+j) % k=j:=by rw [Nat.mul_comm,Nat.mul_add_mod,Nat.mod_eq_of_lt hjl]
   have hyd:d'[q]! = y:=by
    rw [getElem!_pos d' q (by rw [hd'];exact hql)]
    have:=(List.getElem?_eq_some_iff.1 hy).2
    simpa using this
   rw [e1,e2,hyd]
   have:=(List.getElem?_eq_some_iff.1 hv)
   obtain ⟨hl2,hl3⟩:=this
   rw [getElem!_pos (enc y) _ hl2,hl3]
  ·obtain ⟨q,hq,rfl⟩:=List.mem_iff_getElem.1 hv
   have hq' : q<ks.length*k:=by simpa [hd'] using hq
   have hz:=hfl2 q hq'
   rw [List.getElem?_eq_getElem hq] at hz
   have hz':=Option.some.inj hz
   rw [hz',get_flatK _ _ _ _ (by rw [hd'];exact hq')]
   have hqm:q % k<(enc d'[q / k]!).length:=by rw [hk];exact Nat.mod_lt _ hk0
   rw [getElem!_pos (enc d'[q / k]!) _ hqm]
   exact h1 _ _ (List.getElem_mem hqm)
 refine ⟨_,loc,_,_,rfl,⟨rfl,d'.toList,hPd,?_,rfl⟩,hh.turn hlk hu rfl kw hor',.tup [] #[] rfl (fun j x hx=>by simp at hx),.turn hu rfl kw⟩
 refine List.pairwise_iff_getElem.2 fun i j hi hj hij=>?_
 have h:=hsort i j (Nat.zero_le _) hij (by simp at hj;omega)
 rw [getElem!_pos d' i (by simpa using hi),getElem!_pos d' j (by simpa using hj)] at h
 simpa [ltOf] using h
end Go.Proofs.YtdlgoofjechocaaGreatDoor
namespace Go.Proofs
open Go.Shelf Go.RowKit Go.Lib Go.Sort
def YtdlgoofjechocaaGreatDoor.sortE_ren:Go.Shelf.Ren:=⟨fun | 6 => 48 | 15 => 62 | 14 => 61 | 28 => 80 | 29 => 64 | 20 => 72 | 21 => 73 | 22 => 74 | 23 => 75 | 24 => 76 | 25 => 77 | 26 => 78 | 27 => 79 | 46 => 89 | 47 => 90 | 48 => 91 | 49 => 92 | 50 => 93 | 57 => 104|n=>n,fun | 22 => 62 | 24 => 66 | 25 => 79 | 3 => 3 | 39 => 98 | 0 => 0 | 53 => 102 | 55 => 61 | 4 => 4 | 46 => 119 | 45 => 118 | 50 => 87 | 5 => 5 | 9 => 9 | 66 => 126 | 70 => 130 | 76 => 155 | 77 => 156|n=>n,fun|n=>n⟩
theorem YtdlgoofjechocaaGreatDoor.sortE:Go.Proofs.SlLaysF0.n6 Tryz.prog YtdlgoofjechocaaGreatDoor.sortE_ren := {
 mixed:=by kernel_rfl
 f6:=⟨Tryz.f48.name,by decide,Tryz.func48.trans (congrArg some (by kernel_rfl))⟩
 f14:=⟨Tryz.f61.name,by decide,Tryz.func61.trans (congrArg some (by kernel_rfl))⟩
 f15:=Tryz.func62.trans (congrArg some (by kernel_rfl))
 f20:=⟨Tryz.f72.name,by decide,Tryz.func72.trans (congrArg some (by kernel_rfl))⟩
 f21:=⟨Tryz.f73.name,by decide,Tryz.func73.trans (congrArg some (by kernel_rfl))⟩
 f22:=⟨Tryz.f74.name,by decide,Tryz.func74.trans (congrArg some (by kernel_rfl))⟩
 f23:=⟨Tryz.f75.name,by decide,Tryz.func75.trans (congrArg some (by kernel_rfl))⟩
 f24:=⟨Tryz.f76.name,by decide,Tryz.func76.trans (congrArg some (by kernel_rfl))⟩
 f25:=⟨Tryz.f77.name,by decide,Tryz.func77.trans (congrArg some (by kernel_rfl))⟩
 f26:=⟨Tryz.f78.name,by decide,Tryz.func78.trans (congrArg some (by kernel_rfl))⟩
 f27:=⟨Tryz.f79.name,by decide,Tryz.func79.trans (congrArg some (by kernel_rfl))⟩
 f28:=Tryz.func80.trans (congrArg some (by kernel_rfl))
 f29:=Tryz.func64.trans (congrArg some (by kernel_rfl))
 f46:=⟨Tryz.f89.name,by decide,Tryz.func89.trans (congrArg some (by kernel_rfl))⟩
 f47:=Tryz.func90.trans (congrArg some (by kernel_rfl))
 f48:=Tryz.func91.trans (congrArg some (by kernel_rfl))
 f49:=⟨Tryz.f92.name,by decide,Tryz.func92.trans (congrArg some (by kernel_rfl))⟩
 f50:=⟨Tryz.f93.name,by decide,Tryz.func93.trans (congrArg some (by kernel_rfl))⟩
 f57:=⟨Tryz.f104.name,by decide,Tryz.func104.trans (congrArg some (by kernel_rfl))⟩
 t0:=Tryz.underlying0
 a0:=Tryz.isAgg0
 z0:=Tryz.sizeOf0
 v0:=Tryz.zeroValue0
 t3:=Tryz.underlying3
 a3:=Tryz.isAgg3
 z3:=Tryz.sizeOf3
 v3:=Tryz.zeroValue3
 t4:=Tryz.underlying4
 a4:=Tryz.isAgg4
 z4:=Tryz.sizeOf4
 v4:=Tryz.zeroValue4
 t5:=Tryz.underlying5
 a5:=Tryz.isAgg5
 z5:=Tryz.sizeOf5
 v5:=Tryz.zeroValue5
 t9:=Tryz.underlying9
 a9:=Tryz.isAgg9
 z9:=Tryz.sizeOf9
 v9:=Tryz.zeroValue9
 t22:=Tryz.underlying62
 a22:=Tryz.isAgg62
 z22:=Tryz.sizeOf62
 v22:=Tryz.zeroValue62
 t25:=Tryz.underlying79
 a25:=Tryz.isAgg79
 z25:=Tryz.sizeOf79
 v25:=Tryz.zeroValue79
 t39:=Tryz.underlying98
 a39:=Tryz.isAgg98
 z39:=Tryz.sizeOf98
 v39:=Tryz.zeroValue98
 t45:=Tryz.underlying118
 a45:=Tryz.isAgg118
 z45:=Tryz.sizeOf118
 v45:=Tryz.zeroValue118
 t46:=Tryz.underlying119
 a46:=Tryz.isAgg119
 z46:=Tryz.sizeOf119
 v46:=Tryz.zeroValue119
 t50:=Tryz.underlying87
 a50:=Tryz.isAgg87
 z50:=Tryz.sizeOf87
 v50:=Tryz.zeroValue87
 t53:=Tryz.underlying102
 a53:=Tryz.isAgg102
 z53:=Tryz.sizeOf102
 v53:=Tryz.zeroValue102
 t55:=Tryz.underlying61
 a55:=Tryz.isAgg61
 z55:=Tryz.sizeOf61
 v55:=Tryz.zeroValue61
 t66:=Tryz.underlying126
 a66:=Tryz.isAgg126
 z66:=Tryz.sizeOf126
 v66:=Tryz.zeroValue126
 t70:=Tryz.underlying130
 a70:=Tryz.isAgg130
 z70:=Tryz.sizeOf130
 v70:=Tryz.zeroValue130
 t76:=Tryz.underlying155
 a76:=Tryz.isAgg155
 z76:=Tryz.sizeOf155
 v76:=Tryz.zeroValue155
 t77:=Tryz.underlying156
 a77:=Tryz.isAgg156
 z77:=Tryz.sizeOf156
 v77:=Tryz.zeroValue156 }
end Go.Proofs
namespace Go.Proofs.YtdlgoofjechocaaGreatDoor
open Go.RowKit Go.Sort Go.Maps Go.Shelf
def SmE (x:Ed):Prop:=(0≤x.f∧x.f<1000000)∧(0≤x.t∧x.t<1000000)∧(0≤x.k∧x.k<1000000)
abbrev EdS := { x:Ed // SmE x }
def encE (x:EdS):List Value := [.int .i64 x.1.f,.int .i64 x.1.t,.int .i64 x.1.k]
def cmpS (x y:EdS):Int:=cmpE x.1 y.1
theorem cmpS_eq (x y:EdS):cmpW x.1 y.1=cmpS x y:=by
 obtain ⟨⟨a1,a2⟩,⟨a3,a4⟩,a5,a6⟩:=x.2
 obtain ⟨⟨b1,b2⟩,⟨b3,b4⟩,b5,b6⟩:=y.2
 unfold cmpW cmpS cmpE
 split
 ·rw [IntKind.wrap_i64];omega
 ·split
  ·rw [IntKind.wrap_i64];omega
  ·rw [IntKind.wrap_i64];omega
theorem z4W (x y:EdS):ltOf cmpS x y=true↔x.1.t<y.1.t∨(x.1.t=y.1.t∧(x.1.f<y.1.f∨(x.1.f=y.1.f∧x.1.k<y.1.k))):=by
 unfold ltOf cmpS cmpE
 rw [decide_eq_true_eq]
 split
 ·omega
 ·split <;> omega
theorem cmpS_swo:SWO (ltOf cmpS) where
 irrefl x:=by
  cases h:ltOf cmpS x x with
  | false=>rfl
  | true=>rw [z4W] at h;omega
 trans x y z h1 h2:=by rw [z4W] at *;omega
 ntrans x y z h1 h2:=by
  have n1 : ¬ _:=fun h=>absurd ((z4W x y).2 h) (by rw [h1];simp)
  have n2 : ¬ _:=fun h=>absurd ((z4W y z).2 h) (by rw [h2];simp)
  cases h:ltOf cmpS x z with
  | false=>rfl
  | true=>rw [z4W] at h;omega
theorem edgeAgg (w:World):(isAgg 66).run Tryz.prog w = .ok true w:=by kernel_rfl
theorem edgeSz (w:World):(sizeOf 66).run Tryz.prog w = .ok 3 w:=by kernel_rfl
theorem rowsK_E (ks:List EdS):z5C encE ks=rowE (ks.map (·.1)):=by
 simp [z5C,rowE,encE,edC]
theorem z9M (E:List Ed) (hE : ∀ x ∈ E,SmE x) (hlen:E.length<4611686018427387904) (N:Nat) (hp:Hp) (t:Nat) (hlk:hp.lookup t=some (.row 66 3 (rowE E))) :
  MemC Tryz.prog 48 N hp [.own t,.fn (.func 49) []] fun hp' r=>r = .tup [] ∧ ∃ S:List Ed,S.Perm E∧S.Pairwise (fun x y => ¬ cmpE y x<0)∧hp' = zF hp t (.row 66 3 (rowE S)):=by
 obtain ⟨ks,hks⟩ : ∃ ks:List EdS,ks.map (·.1)=E:=⟨E.attach.map fun x=>⟨x.1,hE x.1 x.2⟩,by simp⟩
 have h:=sort_memK sortE 3 edgeAgg edgeSz encE (fun _=>rfl) (by omega) (fun x v hv=>by simp [encE] at hv;rcases hv with rfl|rfl|rfl <;> rfl) cmpS cmpS_swo 49 ks (by rw [← List.length_map (f:=(·.1)),hks];exact hlen) (Ent.of Tryz.func49 (by kernel_rfl) rfl) (fun x y w=>by
  have:=cmpC x.1.f x.1.t x.1.k y.1.f y.1.t y.1.k w
  rw [← cmpS_eq]
  exact this) N hp t 66 (by rw [rowsK_E,hks];exact hlk)
 intro L loc w vs hh hvs
 refine Calls.mono (h L loc w vs hh hvs) ?_
 rintro e w' ⟨v,loc',hp',r,h1,⟨h2,ks',h3,h4,h5⟩,h6⟩
 refine ⟨v,loc',hp',r,h1,⟨h2,ks'.map (·.1),?_,?_,?_⟩,h6⟩
 ·rw [← hks];exact h3.map _
 ·exact List.pairwise_map.2 h4
 ·rw [h5,rowsK_E]
theorem z7Z {l:List Ev} (hl:l.length≤100000) (hk : ∀ e ∈ l,0≤e.kind∧e.kind<1000000) : ∀ x ∈ z00 l l.length,SmE x:=fun x hx=>by
 obtain ⟨j,e,hj,hy,hx'⟩:=qU.1 hx
 obtain ⟨i,hij,hxe⟩:=z1Y hy hx'
 have he:=hk e (List.mem_of_getElem? hy)
 have hkk:x.k=0∨x.k=e.kind:=by
  unfold z3K at hx'
  rcases List.mem_append.1 hx' with h|h
  ·rcases List.mem_append.1 h with h|h
   ·unfold z2Y at h
    split at h
    ·rw [List.mem_singleton.1 h];exact .inl rfl
    ·split at h
     ·rw [List.mem_singleton.1 h];exact .inr rfl
     ·cases h
   ·unfold z0I at h
    obtain ⟨i,hi,rfl⟩:=List.mem_map.1 h
    exact .inr rfl
  ·unfold z2o at h
   split at h
   ·split at h
    ·rw [List.mem_singleton.1 h];exact .inr rfl
    ·cases h
   ·cases h
 refine ⟨?_,?_,?_⟩
 ·rw [hxe];simp only [];omega
 ·rw [hxe];simp only [];omega
 ·omega
theorem z7X {e:Ev} (h:qd e=true) : 0≤e.kind∧e.kind<1000000:=by
 simp only [qd,z3x,z0i,Bool.and_eq_true,Bool.not_eq_true',Bool.or_eq_false_iff,decide_eq_false_iff_not,Bool.not_eq_false',decide_eq_true_eq] at h
 omega
theorem z9n {l:List Ev} (h:(qo l).2=true) : ∀ e ∈ l,0≤e.kind∧e.kind<1000000:=fun e he=>by
 rw [← z3T] at h
 exact z7X (z5p l ps0 h e he)
theorem relsJ_len (l:List Ev) (e:Ev) (j:Nat):(z3K l e j).length≤j+2:=by
 unfold z3K
 rw [List.length_append,List.length_append]
 have h1:(z2Y l e j).length≤1:=by
  unfold z2Y
  split
  ·simp
  ·split <;> simp
 have h2:(z2o l e j).length≤1:=by
  unfold z2o
  split
  ·split <;> simp
  ·simp
 have h3:(z0I l e j (atL l e.obj e.off j)).length≤j:=by
  unfold z0I
  rw [List.length_map]
  refine Nat.le_trans (List.length_filter_le _ _) ?_
  unfold atL
  have:=List.length_filter_le (fun k=>(l[k]?).any (z3t e.obj e.off)) (List.range j)
  rwa [List.length_range] at this
 omega
theorem z7L {l:List Ev} : ∀ n,n≤l.length→(z00 l n).length≤n*(l.length+2)
 | 0,_=>by simp [z00]
 | n+1,h=>by
  obtain ⟨e,hy⟩:=zQ (show n<l.length by omega)
  have h1:=z7L (l:=l) n (by omega)
  have h2:=relsJ_len l e n
  rw [z2P hy,List.length_append,Nat.add_mul]
  omega
def hpE (bb:Nat) (acc:List Ed):Hp := [(5,.boxP (some bb) 62 [.own 0]),(0,.row 66 3 (rowE acc))]
theorem z1o (bb:Nat) (acc:List Ed) (m:Nat) (hm : 6≤m):HpOk m (hpE bb acc) :=
 ⟨fun p hp=>by
  simp only [hpE,List.mem_cons,List.not_mem_nil,or_false] at hp
  rcases hp with rfl|rfl
  ·exact ⟨by simp only [];omega,by simp [AO.z1I,AV.okB];omega⟩
  ·exact ⟨by simp only [];omega,rfl⟩,fun p hp=>by
  simp only [hpE,List.mem_cons,List.not_mem_nil,or_false] at hp
  rcases hp with rfl|rfl <;> rfl⟩
theorem edges_ok (l:List Ev) (hl:l.length≤100000):zx Tryz.prog 35 [.p (.seq 9 (l.map evC))] (.tup [.p (.seq 3 (rowE (z2v l))),.int (errE l)]):=by
 have hv:=valid_t l hl
 cases h5:(qo l).2 with
 | false =>
  rw [h5] at hv
  have hr:z2v l = []:=by simp [z2v,h5]
  have he:errE l=1:=by simp [errE,h5]
  refine zx.of Tryz.func35 rfl 20 rfl (by decide) (by simp [AV.okB]) ?_
  repeat' (first|refine T.zh fun K hK=>?_|apply T.block|(refine T.reg (by kernel_rfl) fun K' hK'=>?_;simp only [bz];(repeat' (first|(with_reducible refine WL.fin ?_;apply hK';clear hK' K')|((with_reducible refine WL.step fun K2 hK2=>?_);simp only [simprocAttr,az];(repeat' (first|with_reducible (first|(apply hK2;clear hK2 K2)|apply And.intro|intro hb)|((with_reducible first|apply zl|apply zm);case h=>exact CallV.plain (Ent.of Tryz.func46 (by kernel_rfl) rfl) (hv) (by simp [AV.okB]))))))))|apply T.skip|apply T.exit|refine T.zg rfl ?_|refine T.zf rfl ?_|refine T.cond rfl (fun hc=>?_) (fun hc=>?_)|apply T.ret|simp only [zb,za,reduceIte,Nat.reduceEqDiff]|((repeat ((fail_if_success apply hK);clear hK K));apply hK;clear hK K))
  refine zH.retW (.inr rfl) Tryz.results35 (s':=⟨[(2,.p (.seq 3 [])),(3,.int 1)],[],20,0⟩) (by refine zk.of' rfl ?_;simp only [wks,reduceIte,Nat.reduceEqDiff,ASt.okB,AV.okB,Nat.reduceLT,implies_true,]) ?_
  rw [hr,he];simp only [zw,zt,zq,nilE,simprocAttr,az]
 | true =>
  rw [h5] at hv
  have hrel:=z7v l
  have hr:z2v l=edU l l.length:=by simp [z2v,h5]
  have he:errE l=0:=by simp [errE,h5]
  rw [hr,he]
  have hEl:(z00 l l.length).length≤100000*100002:=Nat.le_trans (z7L l.length (Nat.le_refl _)) (Nat.mul_le_mul hl (by omega))
  refine zx.of Tryz.func35 rfl 20 rfl (by decide) (by simp [AV.okB]) ?_
  repeat' (first|refine T.zh fun K hK=>?_|apply T.block|(refine T.reg (by kernel_rfl) fun K' hK'=>?_;simp only [bz];(repeat' (first|(with_reducible refine WL.fin ?_;apply hK';clear hK' K')|((with_reducible refine WL.step fun K2 hK2=>?_);simp only [simprocAttr,az];(repeat' (first|with_reducible (first|(apply hK2;clear hK2 K2)|apply And.intro|intro hb)|((with_reducible first|apply zl|apply zm);case h=>exact CallV.plain (Ent.of Tryz.func46 (by kernel_rfl) rfl) (hv) (by simp [AV.okB]))|((with_reducible first|apply zl|apply zm);case h=>exact CallV.plain (Ent.of Tryz.func47 (by kernel_rfl) rfl) (hrel) (by simp [AV.okB]))))))))|apply T.skip|apply T.exit|refine T.zg rfl ?_|refine T.zf rfl ?_|refine T.cond rfl (fun hc=>?_) (fun hc=>?_)|apply T.ret|simp only [zb,za,reduceIte,Nat.reduceEqDiff]|((repeat ((fail_if_success apply hK);clear hK K));apply hK;clear hK K))
  refine T.weak (zk.newrowB _ 0 0 66 3 _ _ _ rfl rfl) ?_;simp only [zF,List.map_cons,List.map_nil,reduceIte,Nat.reduceEqDiff,List.set_cons_succ,List.set_cons_zero,Nat.reduceAdd]
  refine T.weak (zk.upN _ 8 (Nat.le_of_ble_eq_true rfl)) ?_
  refine T.weak (zk.ren _ 0 5) ?_;simp only [ASt.ren,AV.ql,AV.qZ,AV.qH,AV.z0n,AV.z1Q,AV.z0k,AV.qI,AV.qG,AV.z1a,AV.z0m,AV.z0l,AO.z0t,AO.qK,AO.z0C,AO.z0z,List.map_cons,List.map_nil,List.filter_cons,List.filter_nil,zy,qP,reduceIte,Nat.reduceEqDiff,Nat.reduceLT,Nat.reduceBneDiff,bne_self_eq_false,Bool.and_true,Bool.and_false,Bool.true_and,Bool.false_and,Bool.and_self,Bool.false_eq_true,ne_eq,not_false_eq_true,not_true_eq_false,and_self,and_true,true_and,and_false,bne_self_eq_false]
  refine T.weak (zk.ren _ 1 0) ?_;simp only [ASt.ren,AV.ql,AV.qZ,AV.qH,AV.z0n,AV.z1Q,AV.z0k,AV.qI,AV.qG,AV.z1a,AV.z0m,AV.z0l,AO.z0t,AO.qK,AO.z0C,AO.z0z,List.map_cons,List.map_nil,List.filter_cons,List.filter_nil,zy,qP,reduceIte,Nat.reduceEqDiff,Nat.reduceLT,Nat.reduceBneDiff,bne_self_eq_false,Bool.and_true,Bool.and_false,Bool.true_and,Bool.false_and,Bool.and_self,Bool.false_eq_true,ne_eq,not_false_eq_true,not_true_eq_false,and_self,and_true,true_and,and_false,bne_self_eq_false]
  refine T.pin 5 _ rfl fun bb=>?_;simp only [zF,AO.pin,List.map_cons,List.map_nil,reduceIte,Nat.reduceEqDiff]
  refine T.weak (s':=⟨[(0,.p (.seq 9 (l.map evC))),(2,.p (.val nilV)),(3,.int 0),(4,.ptr 5 0),(10,.fn (.func 59) [.elt [.seq 9 (l.map evC)] 0])],hpE bb [],20,1999999⟩) ?_ ?_
  ·refine zk.frm _ _ _ _ (fun t=>?_) (by simp only [wks,reduceIte,Nat.reduceEqDiff,implies_true,and_self,AV.z1b]) (by simp only [wks,AV.okB,Nat.reduceLT,decide_true,List.all_cons,List.all_nil,Bool.and_self,AV.z1b]) ?_
   ·simp only [hpE,nilE,zy,qP]
    repeat' split
    all_goals first|rfl|omega
   ·exact fun t o h=>(z1o bb [] 1999999 (by omega)).at' h
  refine T.rangeFS 59 [.elt [.seq 9 (l.map evC)] 0] [(4,.ptr 5 0)] rfl (Ent.of Tryz.func59 (by kernel_rfl) rfl) (by simp [get_mk,zy]) fun lr sp hsn hsp hsa hsb=>?_
  obtain ⟨H,hHd⟩ : ∃ H:List Ed→Hp,∀ acc,H acc=(1999999,.lrec lr sp [(4,.ptr 5 0)]) :: hpE bb acc:=⟨_,fun _=>rfl⟩
  have hH : ∀ acc,HpOk 2000000 (H acc):=fun acc=>by
   rw [hHd]
   exact (z1o bb acc 2000000 (by omega)).cons (by omega) (by simp [AO.z3s,AV.okB]) ((z1o bb acc 1999999 (by omega)).none (Nat.le_refl _))
  have hh : ∀ acc,∃ o,(H acc).lookup 1999999=some o∧o.handle=some (.func (.yield lr) #[] #[]):=fun acc=>⟨_,by rw [hHd,zi],rfl⟩
  have hyld : ∀ acc x,(∃ r,z00 l l.length=acc++x :: r) → ∃ lr' sp' fr',(H acc).lookup 1999999=some (.lrec lr' sp' fr')∧YldC Tryz.prog lr' 2000000 (H acc) [.agg ((edC x).map .p)] fun hp' r=>hp' = H (acc ++ [x])∧r = .bool true:=by
   rintro acc x ⟨r,hr⟩
   have hal:acc.length≤100000*100002:=by
    have:=congrArg List.length hr
    rw [List.length_append] at this
    omega
   refine ⟨lr,sp,[(4,.ptr 5 0)],by rw [hHd,zi],YldC.of 1999999 [5] (fun hp3=>hp3=hpE bb (acc ++ [x])) (sp:=sp) (fr := [(4,.ptr 5 0)]) (by rw [hHd,zi]) (by rw [hsp];rfl) (by rw [hsp,hsn];simp) (by simp [AV.z0D]) ?_ ?_ (by simp [AV.z0b,edC,AV.okB])⟩
   ·have hfil:(H acc).filter (fun p=>p.1 != 1999999)=hpE bb acc:=by
     rw [hHd,List.filter_cons,if_neg (by simp)]
     exact List.filter_eq_self.2 fun p hp=>by have:=((z1o bb acc 1999999 (by omega)).ok p hp).1;simp;omega
    rw [hsa,hsb,hsp,hsn,hfil]
    have hal2:=z6U acc
    have hm0 : 1≤maxLen:=by unfold maxLen;omega
    have hm1:acc.length+1≤maxLen:=by unfold maxLen;omega
    have hm2:(acc.length+1)*24≤140737488355328:=by omega
    have hsn2:=rowE_snoc acc x
    simp only [frPut,edC,List.map_cons,List.map_nil,hpE]
    repeat' (first|refine T.zh fun K hK=>?_|apply T.block|(refine T.reg (by kernel_rfl) fun K' hK'=>?_;simp only [bz];(with_reducible repeat' (first|(apply WL.fin;apply hK';clear hK' K')|(refine WL.step fun K2 hK2=>?_;simp only [simprocAttr,az,hal2,hm0,hm1,hm2,hsn2];repeat' (first|(apply hK2;clear hK2 K2)|apply And.intro|intro hb)))))|apply T.skip|apply T.exit|refine T.zg rfl ?_|refine T.zf rfl ?_|refine T.cond rfl (fun hc=>?_) (fun hc=>?_)|apply T.ret|simp only [zb,za,reduceIte,Nat.reduceEqDiff]|((repeat ((fail_if_success apply hK);clear hK K));apply hK;clear hK K))
    refine ⟨rfl,⟨[],hpE bb (acc ++ [x]),20,2000000⟩,zk.subs _ _ _ _ (fun t o ho=>?_) (by simp) (by simp) (fun t o h=>(z1o bb _ 2000000 (by omega)).at' h),rfl,(z1o bb _ 1999999 (by omega)).none (Nat.le_refl _),rfl⟩
    exact (ze (Nat.ne_of_lt ((z1o bb _ 2000000 (by omega)).at' ho).1)).trans ho
   ·rintro hp3 rfl
    refine ⟨?_,?_,?_,rfl⟩
    ·intro t ht
     rw [List.mem_singleton.1 ht]
     simp [Kept,hHd,hpE,zy,AO.z4b]
    ·exact fun p hp=>AO.z3a .zA (Nat.le_refl _) ((z1o bb _ 1999999 (by omega)).ok p hp).2
    ·rw [hHd]
  have hmem:=rels_ok 2000010 rfl l (by omega) (evI_of h5) H hH 1999999 (by omega) (.func (.yield lr) #[] #[]) hh hyld
  refine ⟨2000000,H [],_,[5],hmem,?_,by simp [AV.okB,AV.z1b],?_⟩
  ·have he:ASt.hp (ASt.add ⟨[(0,.p (.seq 9 (l.map evC))),(2,.p (.val nilV)),(3,.int 0),(4,.ptr 5 0),(10,.fn (.func 59) [.elt [.seq 9 (l.map evC)] 0])],hpE bb [],20,1999999⟩ (.lrec lr sp [(4,.ptr 5 0)]))=H []:=by rw [hHd];rfl
   refine ⟨Nat.le_refl _,fun p hp=>⟨?_,(hH []).ok p hp⟩,fun p hp _=>?_⟩
   ·rw [he];exact (hH []).one p hp
   ·rw [he] at hp;rw [(hH []).one p hp];rfl
  rintro hp' r ⟨rfl,rfl⟩
  refine ⟨fun t ht _=>?_,⟨_,by rw [hHd,zi]⟩,fun ob=>?_⟩
  ·rw [List.mem_singleton.1 ht]
   simp [Kept,hHd,hpE,zy,AO.z4b]
  have hfl:List.filter (fun p=>decide (2000000≤p.1)) ((1999999,AO.lrec lr sp [(4,.ptr 5 0)]) :: hpE bb []) = []:=by
   have:=(hH []).le
   rw [hHd] at this
   exact this
  have hst9:List.map (fun p=>if p.1=1999999 then (1999999,AO.raw (.func (.yield lr) #[] #[]) ob) else p) (hpE bb (z00 l l.length))=hpE bb (z00 l l.length):=(z1o bb _ 1999999 (by omega)).set _ (Nat.le_refl _)
  simp only [ASt.zR,ASt.add,hfl,List.map_nil,List.append_nil,List.map_cons,zF,hHd,hst9,AV.z0E,AV.z0D,AV.z0o,AV.z0X,AV.z0F,AV.z0V,AV.z0a,AV.z0p,AV.z1J,AV.z0T,AV.z0U,List.mem_singleton,or_true,reduceIte,Nat.reduceEqDiff]
  obtain ⟨E,hE⟩ : ∃ E,E=z00 l l.length:=⟨_,rfl⟩
  have hsm:=z7Z hl (z9n h5)
  have heq : ∀ S:List Ed,S.Perm E→S.Pairwise (fun x y => ¬ cmpE y x<0)→z2Z S=edU l l.length:=fun S h1 h2=>edges_eq h5 (fun e he=>(z9n h5 e he).1) (by rw [← hE];exact h1) h2
  rw [← hE] at hEl hsm ⊢
  (try simp only [zb,za,reduceIte,Nat.reduceEqDiff]);(try ((repeat ((fail_if_success apply hK);clear hK K));apply hK;clear hK K))
  refine T.weak (s':=⟨[(4,.ptr 5 0)],hpE bb E,20,6⟩) (zk.subs _ _ _ _ (fun t o ho=>?_) (by simp only [wks,reduceIte,Nat.reduceEqDiff,implies_true,and_self]) (by simp only [wks,AV.okB,Nat.reduceLT,decide_true]) (fun t o h=>(z1o bb E 6 (by omega)).at' h)) ?_
  ·exact (ze (by have:=((z1o bb E 6 (by omega)).at' ho).1;omega)).trans ho
  simp only [hpE]
  have hso:=z9M E hsm (by omega) 6 [(5,.boxP (some bb) 62 [.own 0]),(0,.row 66 3 (rowE E))] 0 rfl
  repeat' (first|refine T.zh fun K hK=>?_|apply T.block|(refine T.reg (by kernel_rfl) fun K' hK'=>?_;simp only [bz];(repeat' (first|(with_reducible refine WL.fin ?_;apply hK';clear hK' K')|((with_reducible refine WL.step fun K2 hK2=>?_);simp only [simprocAttr,az];(repeat' (first|with_reducible (first|(apply hK2;clear hK2 K2)|apply And.intro|intro hb)|((with_reducible refine zM 6 _ _ [5] (Ent.of Tryz.func48 (by kernel_rfl) rfl) (hso) ?_ ?_ ?_);(focus ((refine ⟨Nat.le_of_ble_eq_true rfl,?_,?_⟩ <;> simp only [pz,reduceIte,Nat.reduceEqDiff,AV.okB,Nat.reduceLT,]);done));(focus (simp [AV.okB,AV.z1b];done));rintro hp' r ⟨rfl,S,hpm,hst',rfl⟩;refine ⟨by simp [Kept,zF,zy,AO.z4b],?_⟩;simp only [cz,ASt.zR,AO.keep,Nat.reduceLeDiff,reduceIte,Nat.reduceEqDiff,zF])|((with_reducible refine zM 1 _ _ [] (Ent.of Tryz.func50 (by kernel_rfl) rfl) (z9D S (by have:=hpm.length_eq;omega)) ?_ ?_ ?_);(focus ((refine ⟨Nat.le_of_ble_eq_true rfl,?_,?_⟩ <;> simp only [pz,reduceIte,Nat.reduceEqDiff,AV.okB,Nat.reduceLT,]);done));(focus (simp [AV.okB,AV.z1b];done));rintro hp' r ⟨R',rfl,hR'⟩;refine ⟨by simp,?_⟩;simp only [cz,ASt.zR,AO.keep,Nat.reduceLeDiff,reduceIte,Nat.reduceEqDiff,zF])))))))|apply T.skip|apply T.exit|refine T.zg rfl ?_|refine T.zf rfl ?_|refine T.cond rfl (fun hc=>?_) (fun hc=>?_)|apply T.ret|simp only [zb,za,reduceIte,Nat.reduceEqDiff]|((repeat ((fail_if_success apply hK);clear hK K));apply hK;clear hK K))
  have hcE:=heq S hpm hst'
  rcases hR' with ⟨rfl,rfl⟩|⟨m,rfl,q1,q2,q3⟩
  ·rw [hcE]
   refine zH.retW (.inr rfl) Tryz.results35 (zk.frz _ 0) ?_;simp only [zw,zt,zq,ASt.frz,ASt.subst,AO.z4c,AO.z5v,AO.z6J,AO.z6k,AO.z3G,AV.z9C,AV.z6i,AV.z5a,AV.z4A,AV.z4a,AV.z3H,AV.z4L,AV.z4l,AV.z5K,AV.z3i,List.filter_cons,List.filter_nil,bne_self_eq_false,Nat.reduceBneDiff,Nat.reduceEqDiff,Bool.false_eq_true,simprocAttr,az]
  ·rw [hcE] at q3
   refine zH.retW (.inr rfl) Tryz.results35 ((zk.cut _ 0 m).trans (zk.frz _ 0)) ?_
   simp only [ASt.cut,AV.cut_own,AV.cut_ptr,AV.cut_pre,AV.cut_p,AV.z9p,AV.cut_tup,AO.cut_box,AO.cut_row,zF,List.map_cons,List.map_nil,zy,qP,reduceIte,Nat.reduceEqDiff,and_self,q1,q2,q3,zw,zt,zq,ASt.frz,ASt.subst,AO.z4c,AO.z5v,AV.z9C,AV.z5a,AV.z4a,AV.z3H,AV.z3i,List.filter_cons,List.filter_nil,bne_self_eq_false,Nat.reduceBneDiff,Bool.false_eq_true,simprocAttr,az]
end Go.Proofs.YtdlgoofjechocaaGreatDoor
namespace Go.Proofs.YtdlgoofjechocaaGreatDoor
open Go.RowKit Go.Sort
theorem Oper.wp_mono2 {P:Program} {o:Oper} {a:Act} {w:World} {K K' : Act→World→Prop} {Q Q' : Exit→Act→World→Prop} (h : ∀ a w,K a w→K' a w) (hq : ∀ e a w,e ≠ .normal→Q e a w→Q' e a w)
  (hh:o.wp P a w K Q):o.wp P a w K' Q':=by
 unfold Oper.wp at *
 generalize (execOp a.eval o).run P w=r at *
 cases r with
 | ok n w' =>
  cases n <;> simp only [Oper.upon] at hh ⊢ <;>
   first
    | exact h _ _ hh
    | exact Calls.mono hh (fun e w'' he=>by cases e <;> first|exact h _ _ he|exact hq _ _ _ (by simp) he|exact (let ⟨a',w',k⟩:=he;⟨a',w',hq _ _ _ (by simp) k⟩))
    | exact Rows.mono hh (fun _ _ he=>h _ _ he)
 | halt x w'=>cases x <;> simp only [Oper.upon] at hh ⊢ <;> first|exact hq _ _ _ (by simp) hh|exact hh|exact (let ⟨a',w',k⟩:=hh;⟨a',w',hq _ _ _ (by simp) k⟩)
def TA (P:Program) (ops:Array Oper) (K:ASt→Prop):Nat→Array Bool→ASt→Prop
 | 0,listed,s=>Region.ready .any ops listed = []∧K s
 | n+1,listed,s=>(Region.ready .any ops listed = []→K s) ∧ ∀ i ∈ Region.ready .any ops listed,∃ o,ops[i]? = some o∧o.guard=none∧z4f o s∧WO P o s (TA P ops K n (listed.setIfInBounds i true))
theorem TA.sound {P:Program} {ops:Array Oper} {K:ASt→Prop} : ∀ (n:Nat) (listed:Array Bool) (s:ASt),TA P ops K n listed s → ∀ (Post:Exit→Act→World→Prop) (L:Lim) (loc:Nat→Option Value) (a:Act) (w:World),
  (∀ e a' w',z10 L loc w (NQ fun _=>K) e a' w' → Post e a' w')→Rel All L s loc a w→wpAny P .any ops Post n listed a w
 | 0,listed,s,h,Post,L,loc,a,w,hP,hr=>⟨h.1,hP _ _ _ (z10.of ⟨rfl,h.2⟩ hr (Ext.refl _ _))⟩
 | n+1,listed,s,h,Post,L,loc,a,w,hP,hr=>⟨fun e=>hP _ _ _ (z10.of ⟨rfl,h.1 e⟩ hr (Ext.refl _ _)),fun i hi=>by
  obtain ⟨o,ho,hg,hd,hW⟩:=h.2 i hi
  have h1:TL P ops (NQ fun _=>TA P ops K n (listed.setIfInBounds i true)) [o] s:=WO.sound (by simp [z3D,hg]) hd (WO.mono (fun s k=>TL.nil ⟨rfl,k⟩) hW)
  have h2:=h1 L loc a w hr
  unfold wpList at h2
  simp only [Region.wanted,hg,if_true] at h2
  unfold wpOp
  rw [ho]
  simp only [Region.wanted,hg,if_true]
  rcases h2 with h2|⟨_,a',w',s',loc',hx,_⟩
  ·refine .inl (Oper.wp_mono2 (fun a' w' k=>?_) (fun e a' w' hne k=>?_) h2)
   ·obtain ⟨s',loc',⟨_,hT⟩,⟨L',hr',hl⟩,hx⟩:=k
    exact TA.sound n _ s' hT Post L' loc' a' w' (fun e a2 w2 k=>hP _ _ _ (k.go hr' hl hx)) hr'
   ·obtain ⟨s',loc',⟨e1,_⟩,_⟩:=k
    exact absurd e1 hne
  ·cases hx.1⟩
theorem T.any {F:Fence} [FOk F] {P:Program} {Q:Exit→ASt→Prop} {s:ASt} {id:Nat} {l:List Oper} (hm:P.follows .mixedOrders=true) (hnd:z2r l=true) (h : ∀ K:ASt→Prop,(∀ s,Q .normal s→K s)→TA P l.toArray K l.toArray.size (Array.replicate l.toArray.size false) s):T F P (.region id l.toArray true) Q s:=fun L loc a w hr=>by
 refine wpIn_mono (wpIn_region_any hm (z5s NQ.out (z0M hnd) _ _ _ _ ?_)) fun _ _ _ k=>NQ.post k
 have hb:Blw w.heap.size w w.drew:=(Blw.refl _ w).drew
 have hr' : Rel All L s loc a w.drew:=⟨hr.defers,hr.size,fun t ht=>(hr.fr t ht).blw hb,hr.hp.below hb⟩
 exact TA.sound _ _ s (h (Q .normal) fun _ h=>h) _ L loc a w.drew (fun e a' w' ⟨s',loc',⟨h0,h1⟩,h2,h3⟩=>z10.ext (.of_below hb) ⟨s',loc',⟨h0,h1⟩,h2,h3⟩) hr'
theorem TA.next {P:Program} {ops:Array Oper} {K:ASt→Prop} {n:Nat} {listed:Array Bool} {s:ASt} (r:List Nat) (hr:Region.ready .any ops listed=r) (hne:r ≠ []) (h : ∀ J:Nat→ASt→Prop,(∀ i s,TA P ops K n (listed.setIfInBounds i true) s→J i s) → ∀ i ∈ r,∃ o,ops[i]? = some o∧o.guard=none∧z4f o s∧WO P o s (J i)):TA P ops K (n+1) listed s :=
 ⟨fun e=>absurd (hr.symm.trans e) hne,by rw [hr];exact h _ fun i s h=>h⟩
def allL:List Oper→Nat→(Nat→Oper→Prop)→Prop
 | [],_,_=>True
 | o :: r,k,f=>f k o∧allL r (k+1) f
theorem z7q : ∀ {l:List Oper} {k:Nat} {f:Nat→Oper→Prop},allL l k f → ∀ i o,l[i]? = some o→f (k+i) o
 | [],_,_,_,i,o,ho=>by simp at ho
 | p :: r,k,f,h,0,o,ho=>by cases ho;exact h.1
 | p :: r,k,f,h,i+1,o,ho=>by
  have:=z7q h.2 i o (by simpa using ho)
  rwa [show k+1+i=k+(i+1) by omega] at this
def rdB (ops:Array Oper) (listed:Array Bool) (i:Nat):Bool:=(Region.ready .any ops listed).contains i
theorem TA.z2X {P:Program} {l:List Oper} {K:ASt→Prop} {n:Nat} {listed:Array Bool} {s:ASt} (hne:(Region.ready .any l.toArray listed).isEmpty=false) (h : ∀ J:Nat→ASt→Prop,(∀ i s,TA P l.toArray K n (listed.setIfInBounds i true) s→J i s)→allL l 0 fun i o=>rdB l.toArray listed i=false∨(o.guard=none∧z4f o s∧WO P o s (J i))):TA P l.toArray K (n+1) listed s :=
 ⟨fun e=>(by rw [e] at hne;cases hne),fun i hi=>by
  have hlt:i<l.toArray.size:=by
   have h0:=hi
   unfold Region.ready at h0
   exact List.mem_range.1 (List.mem_filter.1 h0).1
  have ho:l[i]? = some (l[i]'(by simpa using hlt)):=List.getElem?_eq_getElem _
  rcases z7q (h _ fun i s h=>h) i _ ho with h1|h1
  ·rw [Nat.zero_add] at h1
   unfold rdB at h1
   rw [List.contains_iff_mem.2 hi] at h1
   cases h1
  ·rw [Nat.zero_add] at h1
   exact ⟨_,by rw [List.getElem?_toArray];exact ho,h1.1,h1.2.1,h1.2.2⟩⟩
theorem TA.stop {P:Program} {ops:Array Oper} {K:ASt→Prop} {listed:Array Bool} {s:ASt} (hr:Region.ready .any ops listed = []) (h:K s):TA P ops K 0 listed s:=⟨hr,h⟩
def aftP (l:List Ev):List (List PV):=(matI l.length (aftL l)).map fun r => [PV.seq 1 r]
theorem aftP_len (l:List Ev):(aftP l).length=l.length:=by simp [aftP,z0r]
theorem aftP_at {l:List Ev} {k:Nat} (h:k<l.length):(aftP l)[k]? = some [PV.seq 1 (rowI (aftL l k))]:=by
 unfold aftP;rw [List.getElem?_map,z2E _ h];rfl
def hpN (B n:Nat) (F G:Nat→List Nat):Hp:=(0,.arow 23 (owns 10 n)) :: (1,.arow 23 (owns B n)) :: (mat 3 1 10 (matI n F)++mat 3 1 B (matI n G))
theorem z7N {B n:Nat} (hB:B=1000010) (F G:Nat→List Nat) (hn:n≤1000000) (t:Nat) (o:AO) (h:(hpN B n F G).lookup t=some o):t<2000020∧o.okB 2000020=true:=by
 unfold hpN at h
 by_cases e:t=0
 ·subst e
  rw [zi] at h;cases h
  exact ⟨by omega,z9o n 10 2000020 (by omega)⟩
 ·rw [ze e] at h
  by_cases e1:t=1
  ·subst e1
   rw [zi] at h;cases h
   exact ⟨by omega,z9o n B 2000020 (by omega)⟩
  ·rw [ze e1,qg,z4r,z4r] at h
   have key : ∀ (b:Nat) (R:List (List (List PV))) (o:AO),b+R.length≤2000020→(if b≤t then (R[t-b]?).map (AO.row 3 1) else none)=some o→t<2000020∧o.okB 2000020=true:=fun b R o hb h=>by
    split at h
    ·obtain ⟨r,h1,rfl⟩:=Option.map_eq_some_iff.1 h
     have:=(List.getElem?_eq_some_iff.1 h1).1
     exact ⟨by omega,rfl⟩
    ·cases h
   cases h1:(if 10≤t then ((matI n F)[t-10]?).map (AO.row 3 1) else none) with
   | some o' =>
    rw [h1] at h
    cases h
    exact key 10 _ _ (by rw [z0r];omega) h1
   | none =>
    rw [h1] at h
    exact key B _ _ (by rw [z0r];omega) h
theorem zk.matN (B:Nat) (hB:B=1000010) (n:Nat) (F G:Nat→List Nat) (m N:Nat) (hn:n≤1000000):zk ⟨[(6,.own 0),(7,.own 1),(8,.bool true)],hpN B n F G,m,N⟩ ⟨[(6,.p (.seq 1 ((matI n F).map fun r => [PV.seq 1 r]))),(7,.p (.seq 1 ((matI n G).map fun r => [PV.seq 1 r]))),(8,.bool true)],[],m,N⟩:=by
 have h1:=zk.z6v [(6,.own 0),(7,.own 1),(8,.bool true)] m N 0 23 3 ((1,.arow 23 (owns B n)) :: mat 3 1 B (matI n G)) (matI n F) 10 [] (by omega) (fun k y hk1 hk2=>by
  rw [z0r] at hk2
  refine ⟨?_,?_,?_⟩
  ·have e0 : ¬ 0=k:=by omega
   have e1 : ¬ 1=k:=by omega
   simp [AV.sub,e0,e1]
  ·rw [List.map_cons,z6n,AO.z3W,z4D _ _ _ _ (.inl (by omega))]
  ·have e1:(1 != k)=true:=by simp;omega
   rw [List.filter_cons,if_pos (by simpa using e1),mat_ne _ _ _ _ _ (.inl (by omega))])
 rw [z0r] at h1
 refine zk.trans (zk.hpe _ _ fun t=>?_) (h1.trans ?_)
 ·unfold hpN
  by_cases e:t=0
  ·subst e;simp only [zi,List.map_nil,List.nil_append]
  ·rw [ze e,ze e,qg]
   by_cases e1:t=1
   ·subst e1
    rw [z7P _ _ _ _ _ (by omega),zi]
    simp only [zi];rfl
   ·rw [ze e1,ze e1,qg]
 ·refine (zk.ofA _ 0 23 ((matI n F).map (PV.seq 1)) (by simp only [List.nil_append];exact zi)).trans ?_
  refine zk.trans (zk.hpe _ ((0,.row 23 1 ((matI n F).map fun r => [PV.seq 1 r])) :: (1,.arow 23 (owns B n)) :: mat 3 1 B (matI n G)) fun t=>?_) ?_
  ·simp only [List.nil_append]
   rw [zB]
   by_cases e:t=0
   ·subst e;rw [if_pos rfl,zi,zi,List.map_map];rfl
   ·rw [if_neg e,ze e,ze e]
  refine (zk.frz _ 0).trans ?_
  have h2:=zk.z6v [(6,.p (.seq 1 ((matI n F).map fun r => [PV.seq 1 r]))),(7,.own 1),(8,.bool true)] m N 1 23 3 [] (matI n G) B [] (by omega) (fun k y hk1 hk2=>by
   have e1 : ¬ 1=k:=by omega
   exact ⟨by simp [AV.sub,e1],rfl,rfl⟩)
  rw [z0r] at h2
  have he:ASt.frz ⟨[(6,.own 0),(7,.own 1),(8,.bool true)],(0,.row 23 1 ((matI n F).map fun r => [PV.seq 1 r])) :: (1,.arow 23 (owns B n)) :: mat 3 1 B (matI n G),m,N⟩ 0
    = ⟨[(6,.p (.seq 1 ((matI n F).map fun r => [PV.seq 1 r]))),(7,.own 1),(8,.bool true)],(1,.arow 23 (owns B n)) :: mat 3 1 B (matI n G),m,N⟩:=by
   unfold ASt.frz
   simp only [zi,ASt.subst]
   congr 1
   ·simp [AV.sub]
   ·rw [List.map_cons,List.map_cons,List.filter_cons,if_neg (by simp),List.filter_cons,if_pos (by simp),z6n,mat_ne _ _ _ _ _ (.inl (by omega)),AO.z3W,z4D _ _ _ _ (.inl (by omega))]
  rw [he]
  refine zk.trans (zk.hpe _ _ fun t=>?_) (h2.trans ?_)
  ·simp only [List.map_nil,List.nil_append,List.append_nil]
  ·refine (zk.ofA _ 1 23 ((matI n G).map (PV.seq 1)) (by simp only [List.nil_append];exact zi)).trans ?_
   refine zk.trans (zk.hpe _ [(1,.row 23 1 ((matI n G).map fun r => [PV.seq 1 r]))] fun t=>?_) ?_
   ·simp only [List.nil_append]
    rw [zB]
    by_cases e:t=1
    ·subst e;rw [if_pos rfl,zi,zi,List.map_map];rfl
    ·rw [if_neg e,ze e,ze e]
   refine (zk.frz _ 1).trans ?_
   simp only [ASt.frz,zi,ASt.subst,List.map_cons,List.map_nil,AV.z4a,AV.z9C,if_true,List.filter_cons,List.filter_nil,bne_self_eq_false,Bool.false_eq_true,if_false]
   exact zk.refl _
theorem zk.twoN (B:Nat) (hB:B=1000010) (fr:List (Nat × AV)) (n m:Nat) (hn:n≤1000000):zk ⟨fr,[(0,.row 23 1 (List.replicate n [PV.val nilV])),(1,.row 23 1 (List.replicate n [PV.val nilV]))],m,2⟩ ⟨fr,hpN B n (fun _ => []) (fun _ => []),m,2000020⟩:=by
 have hr:List.replicate n [PV.val nilV]=(List.replicate n (PV.val nilV)).map fun x => [x]:=by simp
 rw [hr]
 refine (zk.toA _ 0 23 _ rfl).trans ?_
 refine (zk.toA _ 1 23 (List.replicate n (PV.val nilV)) rfl).trans ?_
 refine zk.trans (zk.hpe _ [(0,.arow 23 (List.replicate n (.p (.val nilV)))),(1,.arow 23 (List.replicate n (.p (.val nilV))))] fun t=>?_) ?_
 ·simp only [zF,List.map_cons,List.map_nil,List.map_replicate,if_true]
  rfl
 refine (zk.upN _ 10 (by simp)).trans ?_
 refine (zk.nilsA 0 23 3 fr m 10 n _ rfl (by omega) (fun k hk=>by rw [ze (by omega),ze (by omega)];rfl) n (Nat.le_refl n)).trans ?_
 refine (zk.upN _ B (by simp only;omega)).trans ?_
 refine (zk.nilsA 1 23 3 fr m B n _ (by rw [qg,zB];rfl) (by omega) (fun k hk=>by
  rw [qg,zB,if_neg (by omega),ze (by omega),ze (by omega),z5Y _ _ _ _ _ (by simp;omega)];rfl) n (Nat.le_refl n)).trans ?_
 refine (zk.upN _ 2000020 (by simp only;omega)).trans (zk.hpe _ _ fun t=>?_)
 simp only [Nat.sub_self,List.replicate_zero,List.append_nil]
 unfold hpN
 rw [matI_nil]
 by_cases e:t=0
 ·subst e
  rw [zi,qg,zB,if_neg (by omega),qg,zB,if_pos rfl];rfl
 ·by_cases e1:t=1
  ·subst e1
   rw [ze (by omega),zi,qg,zB,if_pos rfl,qg,zB];rfl
  ·rw [ze e,ze e1]
   simp only [qg,zB,e,e1,if_false,ze e,ze e1,List.lookup_nil,Option.none_or]
theorem z2U : ∀ {H:Hp} {k:Nat} (o:AO),H.lookup k=none→List.map (fun p=>if p.1=k then (k,o) else p) H=H
 | [],_,_,_=>rfl
 | (a,b) :: r,k,o,h=>by
  have hne : ¬ k=a:=fun e=>by subst e;rw [zi] at h;cases h
  rw [ze hne] at h
  rw [List.map_cons,z2U o h,if_neg (fun e=>hne e.symm)]
theorem hpN_lk {B n:Nat} {F G:Nat→List Nat} {t:Nat} (h:t<n) (hn:n≤1000000):List.lookup (t+10) (mat 3 1 10 (matI n F)++mat 3 1 B (matI n G))=some (.row 3 1 (rowI (F t))):=by
 rw [qg,z8F,z2E F h];rfl
theorem hpN_lk2 {B n:Nat} (hB:B=1000010) {F G:Nat→List Nat} {t:Nat} (h:t<n) (hn:n≤1000000):List.lookup (t+B) (mat 3 1 10 (matI n F)++mat 3 1 B (matI n G))=some (.row 3 1 (rowI (G t))):=by
 rw [qg,z5Y _ _ _ _ _ (by rw [z0r];omega),z8F,z2E G h];rfl
theorem hpN_hi {B n:Nat} (hB:B=1000010) {F G:Nat→List Nat} {t:Nat} (h : 2000010≤t) (hn:n≤1000000):List.lookup t (mat 3 1 10 (matI n F)++mat 3 1 B (matI n G))=none:=by
 rw [qg,z5Y _ _ _ _ _ (by rw [z0r];omega),z5Y _ _ _ _ _ (by rw [z0r];omega)];rfl
theorem z9h {b n t:Nat} (h:t<n) (N:Nat) (hN:b+n≤N):List.map (AV.ren N (t+b)) ((owns b n).set t (.own N))=owns b n:=by
 apply List.ext_getElem?
 intro q
 rw [List.getElem?_map,List.getElem?_set]
 by_cases hq:q<n
 ·rw [z4J _ _ _ hq]
  by_cases e:t=q
  ·subst e;rw [if_pos rfl,if_pos (by rw [z1d];exact h)];simp [AV.ql]
  ·rw [if_neg e]
   simp only [Option.map_some,AV.ql]
   rw [if_neg (by omega),if_neg (by omega)]
 ·rw [if_neg (by omega),List.getElem?_eq_none (by rw [z1d];omega)];rfl
theorem bfE_len (E:List Ed) (t:Nat):(bfE E t).length≤E.length:=by unfold bfE;rw [List.length_map];exact List.length_filter_le _ _
theorem afE_len (E:List Ed) (t:Nat):(afE E t).length≤E.length:=by unfold afE;rw [List.length_map];exact List.length_filter_le _ _
theorem z8f {l:List Ev} (hl:l.length≤100000):(z2v l).length≤10000000000:=by
 unfold z2v
 split
 ·exact Nat.le_trans (edU_len l l.length l.length (Nat.le_refl _)) (Nat.mul_le_mul hl hl)
 ·simp
theorem hpN_st1 {B n:Nat} (hB:B=1000010) {F G:Nat→List Nat} {t N:Nat} {r:List Nat} {box o:AO} (ht:t<n) (hn:n≤1000000) (hN : 2000020<N) (hb:box.ren N (t+10)=box) (q:Nat) :
  List.lookup q ((2000020,box) :: hpN B n (upL F t r) G)=if q=N∨q=t+10 then (if q=t+10 then some (.row 3 1 (rowI r)) else none) else (List.lookup q ((N,o) :: (2000020,box) :: (0,.arow 23 ((owns 10 n).set t (.own N))) :: (1,.arow 23 (owns B n)) :: List.filter (fun p=>p.1 != t+10) (mat 3 1 10 (matI n F)++mat 3 1 B (matI n G)))).map (AO.ren N (t+10)):=by
 unfold hpN
 by_cases c0:q=2000020
 ·subst c0
  rw [zi,if_neg (by omega),ze (by omega),zi,Option.map_some,hb]
 rw [ze c0]
 by_cases c1:q=0
 ·subst c1
  rw [zi,if_neg (by omega),ze (by omega),ze (by omega),zi,Option.map_some,AO.z4y,z9h ht N (by omega)]
 rw [ze c1]
 by_cases c2:q=1
 ·subst c2
  rw [zi,if_neg (by omega),ze (by omega),ze (by omega),ze (by omega),zi,Option.map_some,AO.z4y,z6Z _ _ _ _ (by omega) (by omega)]
 rw [ze c2,lkH hB _ _ hn]
 by_cases c3:q=N
 ·subst c3
  rw [if_neg (by omega),if_neg (by omega),if_pos (.inl rfl),if_neg (by omega)]
 by_cases c4:q=t+10
 ·subst c4
  rw [if_pos (by omega),if_pos (.inr rfl),if_pos rfl,Nat.add_sub_cancel]
  simp [upL]
 rw [if_neg (show ¬ (q=N∨q=t+10) by omega),ze c3,ze c0,ze c1,ze c2,qY,if_neg c4,lkH hB _ _ hn]
 by_cases h1 : 10≤q∧q<n+10
 ·rw [if_pos h1,if_pos h1,Option.map_some,AO.qK]
  unfold upL
  rw [if_neg (by omega)]
 ·rw [if_neg h1,if_neg h1]
  by_cases h2:B≤q∧q<n+B
  ·rw [if_pos h2,Option.map_some,AO.qK]
  ·rw [if_neg h2];rfl
theorem hpN_st2 {B n:Nat} (hB:B=1000010) {F G:Nat→List Nat} {t N:Nat} {r:List Nat} {box o:AO} (ht:t<n) (hn:n≤1000000) (hN : 2000020<N) (hb:box.ren N (t+B)=box) (q:Nat) :
  List.lookup q ((2000020,box) :: hpN B n F (upL G t r))=if q=N∨q=t+B then (if q=t+B then some (.row 3 1 (rowI r)) else none) else (List.lookup q ((N,o) :: (2000020,box) :: (0,.arow 23 (owns 10 n)) :: (1,.arow 23 ((owns B n).set t (.own N))) :: List.filter (fun p=>p.1 != t+B) (mat 3 1 10 (matI n F)++mat 3 1 B (matI n G)))).map (AO.ren N (t+B)):=by
 unfold hpN
 by_cases c0:q=2000020
 ·subst c0
  rw [zi,if_neg (by omega),ze (by omega),zi,Option.map_some,hb]
 rw [ze c0]
 by_cases c1:q=0
 ·subst c1
  rw [zi,if_neg (by omega),ze (by omega),ze (by omega),zi,Option.map_some,AO.z4y,z6Z _ _ _ _ (by omega) (by omega)]
 rw [ze c1]
 by_cases c2:q=1
 ·subst c2
  rw [zi,if_neg (by omega),ze (by omega),ze (by omega),ze (by omega),zi,Option.map_some,AO.z4y,z9h ht N (by omega)]
 rw [ze c2,lkH hB _ _ hn]
 by_cases c3:q=N
 ·subst c3
  rw [if_neg (by omega),if_neg (by omega),if_pos (.inl rfl),if_neg (by omega)]
 by_cases c4:q=t+B
 ·subst c4
  rw [if_neg (by omega),if_pos (by omega),if_pos (.inr rfl),if_pos rfl,Nat.add_sub_cancel]
  simp [upL]
 rw [if_neg (show ¬ (q=N∨q=t+B) by omega),ze c3,ze c0,ze c1,ze c2,qY,if_neg c4,lkH hB _ _ hn]
 by_cases h1 : 10≤q∧q<n+10
 ·rw [if_pos h1,if_pos h1,Option.map_some,AO.qK]
 ·rw [if_neg h1,if_neg h1]
  by_cases h2:B≤q∧q<n+B
  ·rw [if_pos h2,if_pos h2,Option.map_some,AO.qK]
   unfold upL
   rw [if_neg (by omega)]
  ·rw [if_neg h2,if_neg h2];rfl
theorem hpB_ok {B n:Nat} (hB:B=1000010) (F G:Nat→List Nat) (hn:n≤1000000) {box:AO} (hb:box.okB 2000030=true) (q:Nat) (o:AO) (h:List.lookup q ((2000020,box) :: hpN B n F G)=some o):q<2000030∧o.okB 2000030=true:=by
 by_cases e:q=2000020
 ·subst e;rw [zi] at h;cases h;exact ⟨by omega,hb⟩
 ·rw [ze e] at h
  obtain ⟨h1,h2⟩:=z7N hB F G hn q o h
  refine ⟨by omega,?_⟩
  exact AO.z0d h2 (by omega)
theorem z4v (l:List Ev) (i j:Int) (hl:l.length≤100000):zx Tryz.prog 17 [.p (.seq 9 (l.map evC)),.int i,.int j]
  (.tup [.p (.seq 1 (if plcB l i j then befP l else [])),.p (.seq 1 (if plcB l i j then aftP l else [])),.bool (plcB l i j)]):=by
 have he:=edges_ok l hl
 have hlm:(l.map evC).length=l.length:=by simp
 have hno : ∀ s:ASt,s.get 6 = .p (.val nilV)→s.get 7 = .p (.val nilV)→s.get 8 = .p (.val (.bool false))→plcB l i j=false→s.n=76→zH Tryz.prog Tryz.f17 (.tup [.p (.seq 1 (if plcB l i j then befP l else [])),.p (.seq 1 (if plcB l i j then aftP l else [])),.bool (plcB l i j)]) .ret s:=fun s h6 h7 h8 hp hn=>by
  rw [hp]
  refine zH.retW (.inr rfl) Tryz.results17 (s':=⟨[(6,.p (.seq 1 [])),(7,.p (.seq 1 [])),(8,.bool false)],[],76,0⟩) (zk.of' hn.symm ⟨fun p hp=>?_,fun p hp=>(by cases hp),by simp [ASt.okB,AV.okB]⟩) ?_
  ·rcases List.mem_cons.1 hp with rfl|hp
   ·rw [h6];exact AVle.nil 1
   rcases List.mem_cons.1 hp with rfl|hp
   ·rw [h7];exact AVle.nil 1
   rcases List.mem_cons.1 hp with rfl|hp
   ·rw [h8];exact AVle.refl _
   cases hp
  ·simp only [zw,zt,zq,simprocAttr,az,Bool.false_eq_true,if_false]
 cases h5:(qo l).2 with
 | false =>
  have hz:errE l=1:=by simp [errE,h5]
  rw [hz] at he
  generalize z2v l=E at he
  refine zx.of Tryz.func17 rfl 76 rfl (by decide) (by simp [AV.okB]) ?_
  have hne:((1:Int) != 0)=true:=rfl
  repeat' (first|refine T.zh fun K hK=>?_|apply T.block|(refine T.reg (by kernel_rfl) fun K' hK'=>?_;simp only [bz];(repeat' (first|(with_reducible refine WL.fin ?_;apply hK';clear hK' K')|((with_reducible refine WL.step fun K2 hK2=>?_);simp only [simprocAttr,az,hlm,hne];(repeat' (first|with_reducible (first|(apply hK2;clear hK2 K2)|apply And.intro|intro hb)|((with_reducible first|apply zl|apply zm);case h=>exact CallV.plain (Ent.of Tryz.func35 (by kernel_rfl) rfl) (he) (by simp [AV.okB]))))))))|apply T.skip|apply T.exit|refine T.zg rfl ?_|refine T.zf rfl ?_|refine T.cond rfl (fun hc=>?_) (fun hc=>?_)|apply T.ret|simp only [zb,za,reduceIte,Nat.reduceEqDiff]|((repeat ((fail_if_success apply hK);clear hK K));apply hK;clear hK K))
  all_goals (exact hno _ rfl rfl rfl (by simp [plcB,h5]) rfl)
 | true =>
  have hz:errE l=0:=by simp [errE,h5]
  have hE:z2v l=edU l l.length:=by simp [z2v,h5]
  have hEl:=z8f (l:=l) hl
  have hends : ∀ e ∈ edU l l.length,∃ i j:Nat,i<j∧j<l.length∧e.f=i∧e.t=j:=fun e h=>edU_ends h
  rw [hz] at he
  by_cases hp:plcB l i j=true
  case neg =>
   have hp0:plcB l i j=false:=by simpa using hp
   generalize z2v l=E at he
   cases d1:decide (i<0) <;> cases d2:decide (j≤i) <;> cases d3:decide ((l.length:Int)≤j)
   all_goals (first|(focus (exact absurd (show plcB l i j=true by unfold plcB;rw [h5,d1,d2,d3];rfl) hp))|skip)
   all_goals (refine zx.of Tryz.func17 rfl 76 rfl (by decide) (by simp [AV.okB]) ?_)
   all_goals (repeat' (first|refine T.zh fun K hK=>?_|apply T.block|(refine T.reg (by kernel_rfl) fun K' hK'=>?_;simp only [bz];(repeat' (first|(with_reducible refine WL.fin ?_;apply hK';clear hK' K')|((with_reducible refine WL.step fun K2 hK2=>?_);simp only [simprocAttr,az,hlm,d1,d2,d3,bne_self_eq_false];(repeat' (first|with_reducible (first|(apply hK2;clear hK2 K2)|apply And.intro|intro hb)|((with_reducible first|apply zl|apply zm);case h=>exact CallV.plain (Ent.of Tryz.func35 (by kernel_rfl) rfl) (he) (by simp [AV.okB]))))))))|apply T.skip|apply T.exit|refine T.zg rfl ?_|refine T.zf rfl ?_|refine T.cond rfl (fun hc=>?_) (fun hc=>?_)|apply T.ret|simp only [zb,za,reduceIte,Nat.reduceEqDiff]|((repeat ((fail_if_success apply hK);clear hK K));apply hK;clear hK K)))
   all_goals (exact hno _ rfl rfl rfl hp0 rfl)
  have hpp:=hp
  simp only [plcB,Bool.and_eq_true,Bool.not_eq_true'] at hpp
  obtain ⟨⟨⟨_,d1⟩,d2⟩,d3⟩:=hpp
  rw [hE] at he hEl
  have hbe:=befM_eq l
  have hae:=aftM_eq l
  obtain ⟨n,hn⟩ : ∃ n,n=l.length:=⟨_,rfl⟩
  rw [← hn] at he hEl hends hbe hae hl d3 hlm
  generalize edU l n=E at he hEl hends hbe hae
  have hml:n≤maxLen:=by unfold maxLen;omega
  have hmb : 24*n≤140737488355328:=by omega
  have hn6:n≤1000000:=by omega
  obtain ⟨B,hB⟩ : ∃ B:Nat,B=1000010:=⟨_,rfl⟩
  rw [hp]
  refine zx.of Tryz.func17 rfl 76 rfl (by decide) (by simp [AV.okB]) ?_
  repeat' (first|refine T.zh fun K hK=>?_|apply T.block|(refine T.reg (by kernel_rfl) fun K' hK'=>?_;simp only [bz];(repeat' (first|(with_reducible refine WL.fin ?_;apply hK';clear hK' K')|((with_reducible refine WL.step fun K2 hK2=>?_);simp only [simprocAttr,az,hlm,d1,d2,d3,bne_self_eq_false];(repeat' (first|with_reducible (first|(apply hK2;clear hK2 K2)|apply And.intro|intro hb)|((with_reducible first|apply zl|apply zm);case h=>exact CallV.plain (Ent.of Tryz.func35 (by kernel_rfl) rfl) (he) (by simp [AV.okB]))))))))|apply T.skip|apply T.exit|refine T.zg rfl ?_|refine T.zf rfl ?_|refine T.cond rfl (fun hc=>?_) (fun hc=>?_)|apply T.ret|simp only [zb,za,reduceIte,Nat.reduceEqDiff]|((repeat ((fail_if_success apply hK);clear hK K));apply hK;clear hK K))
  refine T.any (by kernel_rfl) (by kernel_rfl) fun K' hK'=>?_
  suffices hmid : ∀ s',zk s' ⟨[(0,.p (.seq 9 (l.map evC))),(6,.own 0),(7,.own 1),(9,.p (.seq 3 (rowE E)))],[(0,.row 23 1 (List.replicate n [PV.val nilV])),(1,.row 23 1 (List.replicate n [PV.val nilV]))],76,2⟩→K' s' by
   clear hK' hK
   repeat' (first|(refine TA.stop (by kernel_rfl) ?_)|(refine TA.z2X (by kernel_rfl) fun J hJ=>?_;simp only [Nat.reduceAdd,allL])|exact trivial|(with_reducible refine And.intro ?_ ?_)|(focus (refine Or.inl ?_;decide +kernel))|(refine Or.inr ⟨by trivial,by simp [z4f],?_⟩;simp only [simprocAttr,az,hlm,hml,hmb,Int.toNat_natCast];(repeat' (first|(with_reducible refine And.intro ?_ ?_)|(with_reducible refine hJ _ _ ?_;clear hJ J)))))
   all_goals (first|(focus (refine hmid _ ?_;refine zk.of' rfl ?_;simp only [wks,reduceIte,Nat.reduceEqDiff,ASt.okB,AV.okB,Nat.reduceLT,implies_true,];done))|(focus (refine hmid _ ((zk.upN _ 3 (by simp)).trans ((zk.ren _ 0 2).trans ((zk.ren _ 1 0).trans ((zk.ren _ 2 1).trans ?_))));simp only [ASt.ren,AV.ql,AV.qZ,AV.qH,AV.z0n,AV.z1Q,AV.z0k,AV.qI,AV.qG,AV.z1a,AV.z0m,AV.z0l,AO.z0t,AO.qK,AO.z0C,AO.z0z,List.map_cons,List.map_nil,List.filter_cons,List.filter_nil,zy,qP,reduceIte,Nat.reduceEqDiff,Nat.reduceLT,Nat.reduceBneDiff,bne_self_eq_false,Bool.and_true,Bool.and_false,Bool.true_and,Bool.false_and,Bool.and_self,Bool.false_eq_true,ne_eq,not_false_eq_true,not_true_eq_false,and_self,and_true,true_and,and_false];refine zk.of' rfl ?_;simp only [wks,reduceIte,Nat.reduceEqDiff,ASt.okB,AV.okB,Nat.reduceLT,implies_true,];done)))
  intro s' hw
  refine hK' s' ?_
  refine hK s' ?_
  refine T.weak hw ?_
  clear hw hK' K' s' hK K
  refine T.weak (zk.twoN B hB _ n 76 hn6) ?_
  have hf0:bfE (E.take 0)=fun _ => []:=by funext q;simp [bfE]
  have hg0:afE (E.take 0)=fun _ => []:=by funext q;simp [afE]
  have hrl:=z6U E
  repeat' (first|refine T.zh fun K hK=>?_|apply T.block|(refine T.reg (by kernel_rfl) fun K' hK'=>?_;simp only [bz];(with_reducible repeat' (first|(apply WL.fin;apply hK';clear hK' K')|(refine WL.step fun K2 hK2=>?_;simp only [simprocAttr,az,hrl];repeat' (first|(apply hK2;clear hK2 K2)|apply And.intro|intro hb)))))|apply T.skip|apply T.exit|refine T.zg rfl ?_|refine T.zf rfl ?_|refine T.cond rfl (fun hc=>?_) (fun hc=>?_)|apply T.ret|simp only [zb,za,reduceIte,Nat.reduceEqDiff]|((repeat ((fail_if_success apply hK);clear hK K));apply hK;clear hK K))
  refine T.qC (fun k:Nat=>⟨[(0,.p (.seq 9 (l.map evC))),(6,.own 0),(7,.own 1),(41,.p (.seq 3 (rowE E))),(42,.int E.length),(43,.int k)],hpN B n (bfE (E.take k)) (afE (E.take k)),76,2000020⟩) (fun k=>k≤E.length) (fun k=>E.length-k) 0 (Nat.zero_le _) ?_ ?_
  ·refine zk.frm _ _ _ _ (fun t=>?_) (by simp only [wks,reduceIte,Nat.reduceEqDiff,implies_true,and_self,Int.natCast_zero]) (by simp only [wks,AV.okB,Nat.reduceLT,decide_true,List.all_cons,List.all_nil,Bool.and_self,Int.natCast_zero]) ?_
   ·rw [hf0,hg0]
   ·exact fun t o h=>z7N hB _ _ hn6 t o h
  intro k hk KL hKL
  by_cases hkn:k<E.length
  ·have hd:decide ((k:Int)<(E.length:Int))=true:=by simpa using hkn
   have hk0:(0:Int)≤(k:Int):=by omega
   obtain ⟨e,hek⟩:=zQ hkn
   obtain ⟨f,t,hft,htn,hef,het⟩:=hends e (List.mem_of_getElem? hek)
   have m1:=rowE_at hek
   have hed:edC e = [.val (.int .i64 (f:Int)),.val (.int .i64 (t:Int)),.val (.int .i64 e.k)]:=by rw [edC,hef,het]
   rw [hed] at m1
   have hbs:=bfE_step hek hef het
   have has:=afE_step hek hef het
   obtain ⟨F,hF⟩ : ∃ F,F=bfE (E.take k):=⟨_,rfl⟩
   obtain ⟨G,hG⟩ : ∃ G,G=afE (E.take k):=⟨_,rfl⟩
   rw [← hF] at hbs ⊢
   rw [← hG] at has ⊢
   have hFl:(F t).length≤10000000000:=by rw [hF];exact Nat.le_trans (bfE_len _ _) (Nat.le_trans (List.length_take_le' _ _) hEl)
   have hGl:(G f).length≤10000000000:=by rw [hG];exact Nat.le_trans (afE_len _ _) (Nat.le_trans (List.length_take_le' _ _) hEl)
   have ht0:(0:Int)≤(t:Int):=by omega
   have hf0:(0:Int)≤(f:Int):=by omega
   have o1:=z4J n 10 t htn
   have o2:=z1d n 10
   have o3:=z4J n B f (by omega)
   have o4:=z1d n B
   have hz0:(t+10=0)=False:=by simp
   have hz1:(t+10=1)=False:=by simp
   have hz2:(t+10=2000020)=False:=by simp;omega
   have hz3:(t != 2000010)=true:=by simp;omega
   have hz4:(t=2000010)=False:=by simp;omega
   have hfn:f<n:=by omega
   have a1:=z2E F htn
   have a2:=z2E G hfn
   have hm3 : 1≤maxLen:=by unfold maxLen;omega
   have hb3:(F t).length+1≤maxLen:=by unfold maxLen;omega
   have hb4:((F t).length+1)*8≤140737488355328:=by omega
   have hrf:=z04 (F t)
   have lk1:=hpN_lk (B:=B) (F:=F) (G:=G) htn hn6
   have hsx:=fun o=>z2U o (hpN_hi hB (F:=F) (G:=G) (t := 2000020) (by omega) hn6)
   have hs0 : ∀ o,List.map (fun p:Nat × AO=>if p.1=0 then (0,o) else p) (List.filter (fun p=>p.1 != t+10) (mat 3 1 10 (matI n F)++mat 3 1 B (matI n G)))=List.filter (fun p=>p.1 != t+10) (mat 3 1 10 (matI n F)++mat 3 1 B (matI n G)):=fun o=>z2U o (by rw [qY,if_neg (by omega),lkH hB _ _ hn6,if_neg (by omega),if_neg (by omega)])
   simp only [hpN]
   obtain ⟨H,hH⟩ : ∃ H,H=mat 3 1 10 (matI n F)++mat 3 1 B (matI n G):=⟨_,rfl⟩
   rw [← hH] at lk1 hsx hs0 ⊢
   repeat' (first|refine T.zh fun K hK=>?_|apply T.block|(refine T.reg (by kernel_rfl) fun K' hK'=>?_;simp only [bz];(with_reducible repeat' (first|(apply WL.fin;apply hK';clear hK' K')|(refine WL.step fun K2 hK2=>?_;simp only [simprocAttr,az,hd,hk0,Int.toNat_natCast,m1,hsx];repeat' (first|(apply hK2;clear hK2 K2)|apply And.intro|intro hb)))))|apply T.skip|apply T.exit|refine T.zg rfl ?_|refine T.zf rfl ?_|refine T.cond rfl (fun hc=>?_) (fun hc=>?_)|apply T.ret|simp only [zb,za,reduceIte,Nat.reduceEqDiff]|((repeat ((fail_if_success apply hK);clear hK K));apply hK;clear hK K))
   refine T.commT 13 [some (0,1),some (0,1),some (0,1),some (0,1),some (0,1),some (0,1),some (0,1),c0,some (0,1),some (0,1),c0,none,some (1,1)] (by kernel_rfl) (by kernel_rfl) fun K' hK'=>?_;simp only [List.map_cons,List.map_nil,List.take_succ_cons,List.take_zero,List.zip_cons_cons,List.zip_nil_left,List.drop_succ_cons,List.drop_zero] at hK' ⊢;(repeat' (first|(with_reducible refine WC.fin ?_;apply hK';clear hK' K')|((first|(with_reducible refine WC.z0Q fun K2 hK2=>?_)|(with_reducible refine WC.stepW fun K2 hK2=>?_));simp only [simprocAttr,implies_true,amz,WCg,WCv,WOw,allP,dav,Chk,List.filter_cons,List.filter_nil,bne_self_eq_false,Nat.reduceBneDiff,Bool.false_eq_true,tys,ht0,Int.toNat_natCast,htn,o1,o2,hz0,hz1,hz2,hz3,hz4,lk1,hm3,hb3,hb4,hrf,hs0,List.length_cons,List.length_nil,Nat.zero_add];(repeat' (first|(with_reducible refine hK2 _ _ ?_;clear hK2 K2)|with_reducible (first|(apply hK2;clear hK2 K2)|apply And.intro|intro hb)|(with_reducible rfl)|((with_reducible show @Eq ASt _ _);rfl) )))));all_goals ((repeat' (first|(with_reducible refine WLW.fin ?_)|((with_reducible refine WLW.step fun K2 hK2=>?_);simp only [simprocAttr,az,ht0,Int.toNat_natCast,htn,o1,o2,hz0,hz1,hz2,hz3,hz4,lk1,hm3,hb3,hb4,hrf,hs0,List.length_cons,List.length_nil,Nat.zero_add];(repeat' with_reducible (first|(apply hK2;clear hK2 K2)|apply And.intro|intro hb)))));all_goals ((try simp only [zb,za,reduceIte,Nat.reduceEqDiff]);(try ((repeat ((fail_if_success apply hK);clear hK K));apply hK;clear hK K))))
   obtain ⟨bx,hbx⟩ : ∃ bx,bx=AO.boxP none 66 [.p (.val (.int .i64 (f:Int))),.p (.val (.int .i64 (t:Int))),.p (.val (.int .i64 e.k))]:=⟨_,rfl⟩
   have hbr : ∀ a b,bx.ren a b=bx:=fun a b=>by rw [hbx,AO.z0t];simp [AV.z1Q]
   have hbk:bx.okB 2000030=true:=by rw [hbx,AO.z1I];simp [AV.okB]
   rw [← hbx,hH]
   refine T.weak (zk.renTo _ 2000021 (t+10) (.row 3 1 (rowI (F t) ++ [[.val (.int .i64 (f:Int))]])) zi (by simp only;omega) (by omega) [(0,.p (.seq 9 (l.map evC))),(6,.own 0),(7,.own 1),(12,.ptr 2000020 0),(41,.p (.seq 3 (rowE E))),(42,.int E.length),(43,.int k)] ((2000020,bx) :: hpN B n (upL F t (F t ++ [f])) G) 2000030 ?_ (by simp [AV.okB]) (fun q=>?_) (fun q o h=>hpB_ok hB _ _ hn6 hbk q o h)) ?_
   ·simp only [wks,AV.ql,AV.z1Q,AV.qZ,reduceIte,Nat.reduceEqDiff,implies_true,and_self,hz0,hz1,hz2,hz4]
   ·rw [AO.qK,z1k]
    exact hpN_st1 hB htn hn6 (by omega) (hbr _ _) q
   clear hsx hs0 lk1 hH H
   obtain ⟨F2,hF2⟩ : ∃ F2,F2=upL F t (F t ++ [f]):=⟨_,rfl⟩
   rw [← hF2] at hbs ⊢
   have hy0:(f+B=0)=False:=by simp;omega
   have hy1:(f+B=1)=False:=by simp;omega
   have hy2:(f+B=2000020)=False:=by simp;omega
   have hy3:(2000020 != f+B)=true:=by simp;omega
   have hy5:(0 != f+B)=true:=by simp;omega
   have hy7:(0=f+B)=False:=by simp;omega
   have hy8:(1=f+B)=False:=by simp;omega
   have hy6:(1 != f+B)=true:=by simp;omega
   have hc3:(G f).length+1≤maxLen:=by unfold maxLen;omega
   have hc4:((G f).length+1)*8≤140737488355328:=by omega
   have hrg:=z04 (G f)
   have lk2:=hpN_lk2 hB (F:=F2) (G:=G) hfn hn6
   have hs1 : ∀ o,List.map (fun p:Nat × AO=>if p.1=1 then (1,o) else p) (List.filter (fun p=>p.1 != f+B) (mat 3 1 10 (matI n F2)++mat 3 1 B (matI n G)))=List.filter (fun p=>p.1 != f+B) (mat 3 1 10 (matI n F2)++mat 3 1 B (matI n G)):=fun o=>z2U o (by rw [qY,if_neg (by omega),lkH hB _ _ hn6,if_neg (by omega),if_neg (by omega)])
   simp only [hpN]
   obtain ⟨H,hH⟩ : ∃ H,H=mat 3 1 10 (matI n F2)++mat 3 1 B (matI n G):=⟨_,rfl⟩
   rw [← hH] at lk2 hs1 ⊢
   rw [hbx]
   refine T.commT 13 [some (0,1),some (0,1),some (0,1),some (0,1),some (0,1),some (0,1),some (0,1),c0,some (0,1),some (0,1),c0,none,some (1,1)] (by kernel_rfl) (by kernel_rfl) fun K' hK'=>?_;simp only [List.map_cons,List.map_nil,List.take_succ_cons,List.take_zero,List.zip_cons_cons,List.zip_nil_left,List.drop_succ_cons,List.drop_zero] at hK' ⊢;(repeat' (first|(with_reducible refine WC.fin ?_;apply hK';clear hK' K')|((first|(with_reducible refine WC.z0Q fun K2 hK2=>?_)|(with_reducible refine WC.stepW fun K2 hK2=>?_));simp only [simprocAttr,implies_true,amz,WCg,WCv,WOw,allP,dav,Chk,List.filter_cons,List.filter_nil,bne_self_eq_false,Nat.reduceBneDiff,Bool.false_eq_true,tys,hf0,Int.toNat_natCast,hfn,o3,o4,hy0,hy1,hy2,hy3,hy5,hy6,lk2,hm3,hc3,hc4,hrg,hs1,List.length_cons,List.length_nil,Nat.zero_add];(repeat' (first|(with_reducible refine hK2 _ _ ?_;clear hK2 K2)|with_reducible (first|(apply hK2;clear hK2 K2)|apply And.intro|intro hb)|(with_reducible rfl)|((with_reducible show @Eq ASt _ _);rfl) )))));all_goals ((repeat' (first|(with_reducible refine WLW.fin ?_)|((with_reducible refine WLW.step fun K2 hK2=>?_);simp only [simprocAttr,az,hf0,Int.toNat_natCast,hfn,o3,o4,hy0,hy1,hy2,hy3,hy5,hy6,lk2,hm3,hc3,hc4,hrg,hs1,List.length_cons,List.length_nil,Nat.zero_add];(repeat' with_reducible (first|(apply hK2;clear hK2 K2)|apply And.intro|intro hb)))));all_goals ((try simp only [zb,za,reduceIte,Nat.reduceEqDiff]);(try ((repeat ((fail_if_success apply hK);clear hK K));apply hK;clear hK K))))
   rw [← hbx,hH]
   refine T.weak (zk.renTo _ 2000030 (f+B) (.row 3 1 (rowI (G f) ++ [[.val (.int .i64 (t:Int))]])) zi (by simp only;omega) (by omega) [(0,.p (.seq 9 (l.map evC))),(6,.own 0),(7,.own 1),(41,.p (.seq 3 (rowE E))),(42,.int E.length),(43,.int k)] ((2000020,bx) :: hpN B n F2 (upL G f (G f ++ [t]))) 2000030 ?_ (by simp [AV.okB]) (fun q=>?_) (fun q o h=>hpB_ok hB _ _ hn6 hbk q o h)) ?_
   ·simp only [wks,AV.ql,AV.z1Q,AV.qZ,reduceIte,Nat.reduceEqDiff,implies_true,and_self,hy0,hy1,hy2,hy7,hy8]
   ·rw [AO.qK,z1k]
    exact hpN_st2 hB hfn hn6 (by omega) (hbr _ _) q
   repeat' (first|refine T.zh fun K hK=>?_|apply T.block|(refine T.reg (by kernel_rfl) fun K' hK'=>?_;simp only [bz];(with_reducible repeat' (first|(apply WL.fin;apply hK';clear hK' K')|(refine WL.step fun K2 hK2=>?_;simp only [simprocAttr,az];repeat' (first|(apply hK2;clear hK2 K2)|apply And.intro|intro hb)))))|apply T.skip|apply T.exit|refine T.zg rfl ?_|refine T.zf rfl ?_|refine T.cond rfl (fun hc=>?_) (fun hc=>?_)|apply T.ret|simp only [zb,za,reduceIte,Nat.reduceEqDiff]|((repeat ((fail_if_success apply hK);clear hK K));apply hK;clear hK K))
   refine hKL _ (k+1) ?_ hkn (by omega)
   refine zk.subs _ _ _ _ (fun q o ho=>?_) (by simp only [wks,reduceIte,Nat.reduceEqDiff,implies_true,and_self,zu (show k<1152921504606846976 by omega)]) (by simp [AV.okB]) (fun q o h=>z7N hB _ _ hn6 q o h)
   rw [hbs,has] at ho
   exact (ze (by have:=(z7N hB _ _ hn6 q o ho).1;omega)).trans ho
  ·have hd:decide ((k:Int)<(E.length:Int))=false:=by simpa using hkn
   have hke:k=E.length:=by omega
   repeat' (first|refine T.zh fun K hK=>?_|apply T.block|(refine T.reg (by kernel_rfl) fun K' hK'=>?_;simp only [bz];(with_reducible repeat' (first|(apply WL.fin;apply hK';clear hK' K')|(refine WL.step fun K2 hK2=>?_;simp only [simprocAttr,az,hd];repeat' (first|(apply hK2;clear hK2 K2)|apply And.intro|intro hb)))))|apply T.skip|apply T.exit|refine T.zg rfl ?_|refine T.zf rfl ?_|refine T.cond rfl (fun hc=>?_) (fun hc=>?_)|apply T.ret|simp only [zb,za,reduceIte,Nat.reduceEqDiff]|((repeat ((fail_if_success apply hK);clear hK K));apply hK;clear hK K))
   refine zH.retW (.inr rfl) Tryz.results17 (zk.trans (s2:=⟨[(6,.own 0),(7,.own 1),(8,.bool true)],hpN B n (befL l) (aftL l),76,2000020⟩) ?_ (zk.matN B hB n _ _ 76 _ hn6)) ?_
   ·refine zk.frm _ _ _ _ (fun t=>?_) (by simp only [wks,reduceIte,Nat.reduceEqDiff,implies_true,and_self,]) (by simp only [wks,AV.okB,Nat.reduceLT,decide_true,List.all_cons,List.all_nil,Bool.and_self,]) ?_
    ·rw [hke,List.take_length,hpN,hpN,hbe,hae]
    ·exact fun t o h=>z7N hB _ _ hn6 t o h
   ·simp only [zw,zt,zq,simprocAttr,az,befP,aftP,hn,if_true]
def ixP (p:Nat→Bool):List Nat→Nat→Int
 | [],_ => -1
 | y :: r,k=>if p y then (k:Int) else ixP p r (k+1)
theorem ixP_of {p:Nat→Bool} : ∀ {r:List Nat} {q x:Nat} (k:Nat),r[q]? = some x→p x=true→(∀ a y,a<q→r[a]? = some y→p y=false)→ixP p r k=((k+q:Nat):Int)
 | [],q,x,k,h,_,_=>by simp at h
 | y :: r,0,x,k,h,hp,_=>by cases h;rw [ixP,if_pos hp];simp
 | y :: r,q+1,x,k,h,hp,ha=>by
  rw [ixP,ha 0 y (by omega) rfl,if_neg (by simp),ixP_of (r:=r) (q:=q) (k+1) (by simpa using h) hp (fun a z h1 h2=>ha (a+1) z (by omega) (by simpa using h2))]
  congr 1;omega
def cloP (f:Nat→Int) (k a:Nat):Bool:=f a==IntKind.i64.wrap (f k-1)
theorem step_ok (bb n a k:Nat) (f:Nat→Int) (ha:a<n) (hk:k<n):MemC Tryz.prog 20 1 [(0,.boxP (some bb) 3 [.int k])] [.int a,.elt [.seq 1 (rowF n f)] 0,.ptr 0 0]
  (fun hp' r=>hp' = [(0,.boxP (some bb) 3 [.int k])]∧r = .bool (cloP f k a)):=by
 have ha0:(0:Int)≤(a:Int):=by omega
 have hk0:(0:Int)≤(k:Int):=by omega
 refine MemC.of Tryz.func20 rfl 15 rfl (by decide) ?_;simp only [qi,frOf]
 repeat' (first|refine T.zh fun K hK=>?_|apply T.block|(refine T.reg (by kernel_rfl) fun K' hK'=>?_;simp only [bz];(with_reducible repeat' (first|(apply WL.fin;apply hK';clear hK' K')|(refine WL.step fun K2 hK2=>?_;simp only [simprocAttr,az];repeat' (first|(apply hK2;clear hK2 K2)|apply And.intro|intro hb)))))|apply T.skip|apply T.exit|refine T.zg rfl ?_|refine T.zf rfl ?_|refine T.cond rfl (fun hc=>?_) (fun hc=>?_)|apply T.ret|simp only [zb,za,reduceIte,Nat.reduceEqDiff]|((repeat ((fail_if_success apply hK);clear hK K));apply hK;clear hK K))
 refine T.drw 11 (by kernel_rfl) (by kernel_rfl) fun K' hK'=>?_;simp only [List.map_cons,List.map_nil];(repeat' (first|(with_reducible refine WL.fin ?_;apply hK';clear hK' K')|(with_reducible refine WD.fin ?_)|((with_reducible first|refine WL.step fun K2 hK2=>?_|refine WD.step fun K2 hK2=>?_);simp only [simprocAttr,az,ha0,hk0,Int.toNat_natCast,z0w f ha,z0w f hk,z0f];(repeat' with_reducible (first|(apply hK2;clear hK2 K2)|apply And.intro|intro hb)))));all_goals ((try simp only [zb,za,reduceIte,Nat.reduceEqDiff]);(try ((repeat ((fail_if_success apply hK);clear hK K));apply hK;clear hK K)))
 repeat' (first|refine T.zh fun K hK=>?_|apply T.block|(refine T.reg (by kernel_rfl) fun K' hK'=>?_;simp only [bz];(with_reducible repeat' (first|(apply WL.fin;apply hK';clear hK' K')|(refine WL.step fun K2 hK2=>?_;simp only [simprocAttr,az];repeat' (first|(apply hK2;clear hK2 K2)|apply And.intro|intro hb)))))|apply T.skip|apply T.exit|refine T.zg rfl ?_|refine T.zf rfl ?_|refine T.cond rfl (fun hc=>?_) (fun hc=>?_)|apply T.ret|simp only [zb,za,reduceIte,Nat.reduceEqDiff]|((repeat ((fail_if_success apply hK);clear hK K));apply hK;clear hK K))
 all_goals (refine FinM.ret (s':=⟨[(4,.bool (cloP f k a))],[(0,.boxP (some bb) 3 [.int k])],15,1⟩) (r := .bool (cloP f k a)) (.inr rfl) Tryz.results20 (by refine zk.of' rfl ?_;simp only [wks,reduceIte,Nat.reduceEqDiff,ASt.okB,AV.okB,Nat.reduceLT,implies_true,cloP]) rfl ?_ ?_;(focus (simp only [zw,zt,zq,simprocAttr,az,];done)))
 all_goals exact ⟨rfl,rfl⟩
theorem indexF_ok (bb n k:Nat) (f:Nat→Int) (r:List Nat) (hr : ∀ a ∈ r,a<n) (hk:k<n) (hl:r.length≤1000000):MemC Tryz.prog 19 1 [(0,.boxP (some bb) 3 [.int k])] [.p (.seq 1 (rowI r)),.fn (.func 20) [.elt [.seq 1 (rowF n f)] 0,.ptr 0 0]]
  (fun hp' x=>hp' = [(0,.boxP (some bb) 3 [.int k])]∧x = .int (ixP (cloP f k) r 0)):=by
 have hrl:=z04 r
 have hst:=fun a (h:a<n)=>step_ok bb n a k f h hk
 refine MemC.of Tryz.func19 rfl 19 rfl (by decide) ?_;simp only [qi,frOf]
 repeat' (first|refine T.zh fun K hK=>?_|apply T.block|(refine T.reg (by kernel_rfl) fun K' hK'=>?_;simp only [bz];(with_reducible repeat' (first|(apply WL.fin;apply hK';clear hK' K')|(refine WL.step fun K2 hK2=>?_;simp only [simprocAttr,az,hrl];repeat' (first|(apply hK2;clear hK2 K2)|apply And.intro|intro hb)))))|apply T.skip|apply T.exit|refine T.zg rfl ?_|refine T.zf rfl ?_|refine T.cond rfl (fun hc=>?_) (fun hc=>?_)|apply T.ret|simp only [zb,za,reduceIte,Nat.reduceEqDiff]|((repeat ((fail_if_success apply hK);clear hK K));apply hK;clear hK K))
 refine T.qC (fun q:Nat=>⟨[(0,.p (.seq 1 (rowI r))),(1,.fn (.func 20) [.elt [.seq 1 (rowF n f)] 0,.ptr 0 0]),(6,.p (.seq 1 (rowI r))),(7,.int r.length),(8,.int q)],[(0,.boxP (some bb) 3 [.int k])],19,1⟩) (fun q=>q≤r.length∧ixP (cloP f k) r 0=ixP (cloP f k) (r.drop q) q) (fun q=>r.length-q) 0 ⟨Nat.zero_le _,rfl⟩ (by refine zk.of' rfl ?_;simp only [wks,reduceIte,Nat.reduceEqDiff,ASt.okB,AV.okB,Nat.reduceLT,implies_true,Int.natCast_zero,AV.z1b,List.all_cons,List.all_nil]) ?_
 rintro q ⟨hq,hix⟩ KL hKL
 by_cases hqn:q<r.length
 ·have hd:decide ((q:Int)<(r.length:Int))=true:=by simpa using hqn
  have hq0:(0:Int)≤(q:Int):=by omega
  obtain ⟨y,hy⟩:=zQ hqn
  have m1:=z3p hy
  have hst:=hst y (hr y (List.mem_of_getElem? hy))
  rw [drop_at hy,ixP] at hix
  cases hc:cloP f k y with
  | true =>
   rw [hc] at hst
   rw [hc,if_pos rfl] at hix
   repeat' (first|refine T.zh fun K hK=>?_|apply T.block|(refine T.reg (by kernel_rfl) fun K' hK'=>?_;simp only [bz];(repeat' (first|(with_reducible refine WL.fin ?_;apply hK';clear hK' K')|((with_reducible refine WL.step fun K2 hK2=>?_);simp only [simprocAttr,az,hd,hq0,Int.toNat_natCast,m1];(repeat' (first|with_reducible (first|(apply hK2;clear hK2 K2)|apply And.intro|intro hb)|((with_reducible refine zM 1 _ _ [0] (Ent.of Tryz.func20 (by kernel_rfl) rfl) (hst) ?_ ?_ ?_);(focus ((refine ⟨Nat.le_of_ble_eq_true rfl,?_,?_⟩ <;> simp only [pz,reduceIte,Nat.reduceEqDiff,AV.okB,Nat.reduceLT,]);done));(focus (simp [AV.okB];done));rintro hp' r ⟨rfl,rfl⟩;refine ⟨by simp [Kept,zy,AO.handle],?_⟩;simp only [cz,ASt.zR,AO.keep,Nat.reduceLeDiff,reduceIte,Nat.reduceEqDiff,])))))))|apply T.skip|apply T.exit|refine T.zg rfl ?_|refine T.zf rfl ?_|refine T.cond rfl (fun hc=>?_) (fun hc=>?_)|apply T.ret|simp only [zb,za,reduceIte,Nat.reduceEqDiff]|((repeat ((fail_if_success apply hK);clear hK K));apply hK;clear hK K))
   all_goals (refine FinM.ret (s':=⟨[(4,.int q)],[(0,.boxP (some bb) 3 [.int k])],19,1⟩) (r := .int q) (.inr rfl) Tryz.results19 (by refine zk.of' rfl ?_;simp only [wks,reduceIte,Nat.reduceEqDiff,ASt.okB,AV.okB,Nat.reduceLT,implies_true,]) rfl ?_ ?_;(focus (simp only [zw,zt,zq,simprocAttr,az,];done)))
   all_goals exact ⟨rfl,by rw [hix]⟩
  | false =>
   rw [hc] at hst
   rw [hc,if_neg (by simp)] at hix
   repeat' (first|refine T.zh fun K hK=>?_|apply T.block|(refine T.reg (by kernel_rfl) fun K' hK'=>?_;simp only [bz];(repeat' (first|(with_reducible refine WL.fin ?_;apply hK';clear hK' K')|((with_reducible refine WL.step fun K2 hK2=>?_);simp only [simprocAttr,az,hd,hq0,Int.toNat_natCast,m1];(repeat' (first|with_reducible (first|(apply hK2;clear hK2 K2)|apply And.intro|intro hb)|((with_reducible refine zM 1 _ _ [0] (Ent.of Tryz.func20 (by kernel_rfl) rfl) (hst) ?_ ?_ ?_);(focus ((refine ⟨Nat.le_of_ble_eq_true rfl,?_,?_⟩ <;> simp only [pz,reduceIte,Nat.reduceEqDiff,AV.okB,Nat.reduceLT,]);done));(focus (simp [AV.okB];done));rintro hp' r ⟨rfl,rfl⟩;refine ⟨by simp [Kept,zy,AO.handle],?_⟩;simp only [cz,ASt.zR,AO.keep,Nat.reduceLeDiff,reduceIte,Nat.reduceEqDiff,])))))))|apply T.skip|apply T.exit|refine T.zg rfl ?_|refine T.zf rfl ?_|refine T.cond rfl (fun hc=>?_) (fun hc=>?_)|apply T.ret|simp only [zb,za,reduceIte,Nat.reduceEqDiff]|((repeat ((fail_if_success apply hK);clear hK K));apply hK;clear hK K))
   refine hKL _ (q+1) ?_ ⟨hqn,hix⟩ (by omega)
   refine zk.of' rfl ?_;simp only [wks,reduceIte,Nat.reduceEqDiff,ASt.okB,AV.okB,Nat.reduceLT,implies_true,zu (show q<1152921504606846976 by omega),AV.z1b,List.all_cons,List.all_nil]
 ·have hd:decide ((q:Int)<(r.length:Int))=false:=by simpa using hqn
  rw [List.drop_eq_nil_of_le (by omega),ixP] at hix
  repeat' (first|refine T.zh fun K hK=>?_|apply T.block|(refine T.reg (by kernel_rfl) fun K' hK'=>?_;simp only [bz];(with_reducible repeat' (first|(apply WL.fin;apply hK';clear hK' K')|(refine WL.step fun K2 hK2=>?_;simp only [simprocAttr,az,hd];repeat' (first|(apply hK2;clear hK2 K2)|apply And.intro|intro hb)))))|apply T.skip|apply T.exit|refine T.zg rfl ?_|refine T.zf rfl ?_|refine T.cond rfl (fun hc=>?_) (fun hc=>?_)|apply T.ret|simp only [zb,za,reduceIte,Nat.reduceEqDiff]|((repeat ((fail_if_success apply hK);clear hK K));apply hK;clear hK K))
  all_goals (refine FinM.ret (s':=⟨[(4,.int (-1))],[(0,.boxP (some bb) 3 [.int k])],19,1⟩) (r := .int (-1)) (.inr rfl) Tryz.results19 (by refine zk.of' rfl ?_;simp only [wks,reduceIte,Nat.reduceEqDiff,ASt.okB,AV.okB,Nat.reduceLT,implies_true,]) rfl ?_ ?_;(focus (simp only [zw,zt,zq,simprocAttr,az,];done)))
  all_goals exact ⟨rfl,by rw [hix]⟩
theorem ix_next {l:List Ev} {i j k:Nat} {g:Nat→Nat} (h:BfR l i j g) (hk:g k=zU l j k) (hi:zU l j k≤g i) (h2 : 2≤zU l j k) (hj:j<l.length) (hl:l.length≤100000) : ∃ q:Nat,ixP (cloP (dsF g) k) (aftL l k) 0=(q:Int)∧(aftL l k)[q]? = some (nxtC l j k):=by
 have hb:=z5n (l:=l) (j:=j) (d:=j-k) (k:=k) (Nat.le_refl _) (Nat.le_of_lt (Nat.lt_of_lt_of_le (z5L h2) (z7e h2)))
 have hmem:nxtC l j k ∈ aftL l k:=by
  have h3:=z5L h2
  have h4:=z7e h2
  have h5:=z8p h2
  simp only [aftL,rgF,List.mem_filter,List.mem_range,Bool.and_eq_true,decide_eq_true_eq]
  exact ⟨by omega,h3,h5⟩
 obtain ⟨q,hq⟩:=List.mem_iff_getElem?.1 hmem
 have hpw:(aftL l k).Pairwise (· < ·):=z7k _ _
 have hstep : ∀ a,k<a→immL l k a=true→cloP (dsF g) k a=folB l j k a:=fun a h3 h4=>by
  have h5:=h.fol hk hi h2 h3 h4
  have hw:IntKind.i64.wrap (dsF g k-1)=dsF g k-1:=by
   simp only [dsF]
   exact z4h (by omega) (by omega)
  unfold cloP
  rw [hw,Bool.eq_iff_iff,beq_iff_eq,← h5]
  simp only [dsF]
  omega
 refine ⟨q,?_,hq⟩
 rw [ixP_of (q:=q) (x:=nxtC l j k) 0 hq ?_ ?_,Nat.zero_add]
 ·rw [hstep _ (z5L h2) (z8p h2)];exact (z3I h2).1
 ·intro a y ha hy
  have hm:=List.mem_of_getElem? hy
  simp only [aftL,rgF,List.mem_filter,List.mem_range,Bool.and_eq_true,decide_eq_true_eq] at hm
  rw [hstep y hm.2.1 hm.2.2]
  refine (z3I h2).2 y ?_
  have h7:=List.pairwise_iff_getElem.1 hpw a q (List.getElem?_eq_some_iff.1 hy).1 (List.getElem?_eq_some_iff.1 hq).1 ha
  rw [(List.getElem?_eq_some_iff.1 hy).2,(List.getElem?_eq_some_iff.1 hq).2] at h7
  exact h7
end Go.Proofs.YtdlgoofjechocaaGreatDoor
