/- Texts Pp, Az, Pq, Ps, Pm, Pr, Pt, Pu. -/
import Derived.Test.YtdlgoofjechocaaGreatDoorZ07
set_option maxHeartbeats 32000000
set_option maxRecDepth 100000
set_option linter.unusedSimpArgs false
set_option linter.unusedVariables false
namespace Go.Proofs.YtdlgoofjechocaaGreatDoor
open Go.RowKit Go.Sort
def z4g (l:List Ev) (x y:Ev) (j:Nat):Bool:=(x.kind==14)&&(x.k==y.g)&&z3w l y j
def kndB (l:List Ev) (x y:Ev) (i j:Nat):Bool :=
 if x.kind==15 then (y.kind==18)&&(y.k==x.k)
 else if x.kind==17 then (y.kind==16)&&(y.k==IntKind.i64.wrap (x.k+x.n))
 else if x.kind==19 then y.kind==20
 else if x.kind==7 then (y.kind==6)||(y.kind==8)
 else if x.kind==9 then y.kind==6
 else if x.kind==10 then y.kind==11
 else if x.kind==12 then y.kind==13
 else if (x.kind==4)||(x.kind==5) then ((y.kind==3)||(y.kind==5))&&z6f l y i j
 else false
def immB (l:List Ev) (x y:Ev) (i j:Nat):Bool :=
 if z1W l x y i j||z4g l x y j then true
 else if (x.obj != y.obj)||(x.off != y.off) then false
 else kndB l x y i j
theorem imm_ok (l:List Ev) (i j:Nat) (x y:Ev) (hx:l[i]? = some x) (hy:l[j]? = some y) (hij:i<j) (hl:l.length≤1000000):zx Tryz.prog 29 [.p (.seq 9 (l.map evC)),.int i,.int j] (.bool (immB l x y i j)):=by
 have hP:=z9I l i j x y hx hy hij hl
 have hF:=first_ok l j y hy hl
 have hA:=atomic_ok l i j y hy hij hl
 refine zx.of Tryz.func29 rfl 126 rfl (by decide) (by simp [AV.okB]) ?_
 repeat' (first|refine T.zh fun K hK=>?_|apply T.block|apply T.skip|apply T.exit|refine T.zg rfl ?_|refine T.zf rfl ?_|refine T.cond rfl (fun hc=>?_) (fun hc=>?_)|apply T.ret|simp only [zb,za,reduceIte,Nat.reduceEqDiff]|((repeat ((fail_if_success apply hK);clear hK K));apply hK;clear hK K))
 (refine T.reg (by kernel_rfl) fun K' hK'=>?_;simp only [bz];(with_reducible repeat' (first|(apply WL.fin;apply hK';clear hK' K')|(refine WL.step fun K2 hK2=>?_;simp only [simprocAttr,az,hx,hy,evC];repeat' (first|(apply hK2;clear hK2 K2)|apply And.intro|intro hb))));all_goals ((try simp only [zb,za,reduceIte,Nat.reduceEqDiff]);(try ((repeat ((fail_if_success apply hK);clear hK K));apply hK;clear hK K))))
 repeat' (first|refine T.zh fun K hK=>?_|apply T.block|apply T.skip|apply T.exit|refine T.zg rfl ?_|refine T.zf rfl ?_|refine T.cond rfl (fun hc=>?_) (fun hc=>?_)|apply T.ret|simp only [zb,za,reduceIte,Nat.reduceEqDiff]|((repeat ((fail_if_success apply hK);clear hK K));apply hK;clear hK K))
 (refine T.reg (by kernel_rfl) fun K' hK'=>?_;simp only [bz];(with_reducible repeat' (first|(apply WL.fin;apply hK';clear hK' K')|(refine WL.step fun K2 hK2=>?_;simp only [simprocAttr,az,hx,hy,evC];repeat' (first|(apply hK2;clear hK2 K2)|apply And.intro|intro hb))));all_goals ((try simp only [zb,za,reduceIte,Nat.reduceEqDiff]);(try ((repeat ((fail_if_success apply hK);clear hK K));apply hK;clear hK K))))
 repeat' (first|refine T.zh fun K hK=>?_|apply T.block|apply T.skip|apply T.exit|refine T.zg rfl ?_|refine T.zf rfl ?_|refine T.cond rfl (fun hc=>?_) (fun hc=>?_)|apply T.ret|simp only [zb,za,reduceIte,Nat.reduceEqDiff]|((repeat ((fail_if_success apply hK);clear hK K));apply hK;clear hK K))
 (refine T.reg (by kernel_rfl) fun K' hK'=>?_;simp only [bz];(with_reducible repeat' (first|(apply WL.fin;apply hK';clear hK' K')|(refine WL.step fun K2 hK2=>?_;simp only [simprocAttr,az,hx,hy,evC];repeat' (first|(apply hK2;clear hK2 K2)|apply And.intro|intro hb))));all_goals ((try simp only [zb,za,reduceIte,Nat.reduceEqDiff]);(try ((repeat ((fail_if_success apply hK);clear hK K));apply hK;clear hK K))))
 repeat' (first|refine T.zh fun K hK=>?_|apply T.block|apply T.skip|apply T.exit|refine T.zg rfl ?_|refine T.zf rfl ?_|refine T.cond rfl (fun hc=>?_) (fun hc=>?_)|apply T.ret|simp only [zb,za,reduceIte,Nat.reduceEqDiff]|((repeat ((fail_if_success apply hK);clear hK K));apply hK;clear hK K))
 suffices hmid : ∀ s',zk s' ⟨[(0,.p (.seq 9 (l.map evC))),(1,.int i),(2,.int j),(6,.bool false),(7,.ptr 0 0),(8,.ptr 1 0),(37,.bool (z1W l x y i j||z4g l x y j))],[(1,.boxP none 30 ((evC y).map .p)),(0,.boxP none 30 ((evC x).map .p))],126,2⟩→K s' by
  clear hK
  have hK:=hmid
  clear hmid
  cases hp:z1W l x y i j with
  | true =>
   rw [hp] at hP
   (refine T.reg (by kernel_rfl) fun K' hK'=>?_;simp only [bz];(repeat' (first|(with_reducible refine WL.fin ?_;apply hK';clear hK' K')|((with_reducible refine WL.step fun K2 hK2=>?_);simp only [simprocAttr,az,evC];(repeat' (first|with_reducible (first|(apply hK2;clear hK2 K2)|apply And.intro|intro hb)|((with_reducible first|apply zl|apply zm);case h=>exact CallV.plain (Ent.of Tryz.func43 (by kernel_rfl) rfl) (hP) (by simp [AV.okB])))))));all_goals ((try simp only [zb,za,reduceIte,Nat.reduceEqDiff]);(try ((repeat ((fail_if_success apply hK);clear hK K));apply hK;clear hK K))))
   all_goals (refine zk.of' rfl ?_;simp only [wks,reduceIte,Nat.reduceEqDiff,ASt.okB,AV.okB,Nat.reduceLT,implies_true,evC,List.map_cons,List.map_nil,hp,Bool.true_or])
  | false =>
   rw [hp] at hP
   cases h14:(x.kind==14) with
   | false =>
    (refine T.reg (by kernel_rfl) fun K' hK'=>?_;simp only [bz];(repeat' (first|(with_reducible refine WL.fin ?_;apply hK';clear hK' K')|((with_reducible refine WL.step fun K2 hK2=>?_);simp only [simprocAttr,az,evC,h14];(repeat' (first|with_reducible (first|(apply hK2;clear hK2 K2)|apply And.intro|intro hb)|((with_reducible first|apply zl|apply zm);case h=>exact CallV.plain (Ent.of Tryz.func43 (by kernel_rfl) rfl) (hP) (by simp [AV.okB])))))));all_goals ((try simp only [zb,za,reduceIte,Nat.reduceEqDiff]);(try ((repeat ((fail_if_success apply hK);clear hK K));apply hK;clear hK K))))
    all_goals (refine zk.of' rfl ?_;simp only [wks,reduceIte,Nat.reduceEqDiff,ASt.okB,AV.okB,Nat.reduceLT,implies_true,evC,List.map_cons,List.map_nil,z4g,hp,h14,Bool.false_or,Bool.false_and])
   | true =>
    cases hk:(x.k==y.g) with
    | false =>
     (refine T.reg (by kernel_rfl) fun K' hK'=>?_;simp only [bz];(repeat' (first|(with_reducible refine WL.fin ?_;apply hK';clear hK' K')|((with_reducible refine WL.step fun K2 hK2=>?_);simp only [simprocAttr,az,evC,h14,hk];(repeat' (first|with_reducible (first|(apply hK2;clear hK2 K2)|apply And.intro|intro hb)|((with_reducible first|apply zl|apply zm);case h=>exact CallV.plain (Ent.of Tryz.func43 (by kernel_rfl) rfl) (hP) (by simp [AV.okB])))))));all_goals ((try simp only [zb,za,reduceIte,Nat.reduceEqDiff]);(try ((repeat ((fail_if_success apply hK);clear hK K));apply hK;clear hK K))))
     all_goals (refine zk.of' rfl ?_;simp only [wks,reduceIte,Nat.reduceEqDiff,ASt.okB,AV.okB,Nat.reduceLT,implies_true,evC,List.map_cons,List.map_nil,z4g,hp,h14,hk,Bool.false_or,Bool.false_and,Bool.and_false])
    | true =>
     (refine T.reg (by kernel_rfl) fun K' hK'=>?_;simp only [bz];(repeat' (first|(with_reducible refine WL.fin ?_;apply hK';clear hK' K')|((with_reducible refine WL.step fun K2 hK2=>?_);simp only [simprocAttr,az,evC,h14,hk];(repeat' (first|with_reducible (first|(apply hK2;clear hK2 K2)|apply And.intro|intro hb)|((with_reducible first|apply zl|apply zm);case h=>exact CallV.plain (Ent.of Tryz.func43 (by kernel_rfl) rfl) (hP) (by simp [AV.okB]))|((with_reducible first|apply zl|apply zm);case h=>exact CallV.plain (Ent.of Tryz.func44 (by kernel_rfl) rfl) (hF) (by simp [AV.okB])))))));all_goals ((try simp only [zb,za,reduceIte,Nat.reduceEqDiff]);(try ((repeat ((fail_if_success apply hK);clear hK K));apply hK;clear hK K))))
     all_goals (refine zk.of' rfl ?_;simp only [wks,reduceIte,Nat.reduceEqDiff,ASt.okB,AV.okB,Nat.reduceLT,implies_true,evC,List.map_cons,List.map_nil,z4g,hp,h14,hk,Bool.false_or,Bool.true_and])
 intro s' hw
 refine hK s' ?_
 refine T.weak hw ?_
 clear hK hw s'
 cases h1:(z1W l x y i j||z4g l x y j) with
 | true =>
  repeat' (first|refine T.zh fun K hK=>?_|apply T.block|(refine T.reg (by kernel_rfl) fun K' hK'=>?_;simp only [bz];(with_reducible repeat' (first|(apply WL.fin;apply hK';clear hK' K')|(refine WL.step fun K2 hK2=>?_;simp only [simprocAttr,az];repeat' (first|(apply hK2;clear hK2 K2)|apply And.intro|intro hb)))))|apply T.skip|apply T.exit|refine T.zg rfl ?_|refine T.zf rfl ?_|refine T.cond rfl (fun hc=>?_) (fun hc=>?_)|apply T.ret|simp only [zb,za,reduceIte,Nat.reduceEqDiff]|((repeat ((fail_if_success apply hK);clear hK K));apply hK;clear hK K))
  all_goals (refine zH.ret (.inr rfl) Tryz.results29 ?_;simp only [zw,zt,zq,simprocAttr,az,])
  simp [immB,h1]
 | false =>
  cases ho:(x.obj != y.obj) with
  | true =>
   repeat' (first|refine T.zh fun K hK=>?_|apply T.block|(refine T.reg (by kernel_rfl) fun K' hK'=>?_;simp only [bz];(with_reducible repeat' (first|(apply WL.fin;apply hK';clear hK' K')|(refine WL.step fun K2 hK2=>?_;simp only [simprocAttr,az,evC,Bool.not_true,Bool.not_false,bne_self_eq_false,ho];repeat' (first|(apply hK2;clear hK2 K2)|apply And.intro|intro hb)))))|apply T.skip|apply T.exit|refine T.zg rfl ?_|refine T.zf rfl ?_|refine T.cond rfl (fun hc=>?_) (fun hc=>?_)|apply T.ret|simp only [zb,za,reduceIte,Nat.reduceEqDiff]|((repeat ((fail_if_success apply hK);clear hK K));apply hK;clear hK K))
   all_goals (refine zH.ret (.inr rfl) Tryz.results29 ?_;simp only [zw,zt,zq,simprocAttr,az,];(try simp [immB,kndB,h1,ho]))
  | false =>
   cases hf:(x.off != y.off) with
   | true =>
    repeat' (first|refine T.zh fun K hK=>?_|apply T.block|(refine T.reg (by kernel_rfl) fun K' hK'=>?_;simp only [bz];(with_reducible repeat' (first|(apply WL.fin;apply hK';clear hK' K')|(refine WL.step fun K2 hK2=>?_;simp only [simprocAttr,az,evC,Bool.not_true,Bool.not_false,bne_self_eq_false,ho,hf];repeat' (first|(apply hK2;clear hK2 K2)|apply And.intro|intro hb)))))|apply T.skip|apply T.exit|refine T.zg rfl ?_|refine T.zf rfl ?_|refine T.cond rfl (fun hc=>?_) (fun hc=>?_)|apply T.ret|simp only [zb,za,reduceIte,Nat.reduceEqDiff]|((repeat ((fail_if_success apply hK);clear hK K));apply hK;clear hK K))
    all_goals (refine zH.ret (.inr rfl) Tryz.results29 ?_;simp only [zw,zt,zq,simprocAttr,az,];(try simp [immB,kndB,h1,ho,hf]))
   | false =>
    have hi:immB l x y i j=kndB l x y i j:=by simp [immB,h1,ho,hf]
    rw [hi]
    cases h15:(x.kind==15) with
    | true =>
     cases y18:(y.kind==18) with
     | true =>
      repeat' (first|refine T.zh fun K hK=>?_|apply T.block|(refine T.reg (by kernel_rfl) fun K' hK'=>?_;simp only [bz];(with_reducible repeat' (first|(apply WL.fin;apply hK';clear hK' K')|(refine WL.step fun K2 hK2=>?_;simp only [simprocAttr,az,evC,Bool.not_true,Bool.not_false,bne_self_eq_false,ho,hf,h15,y18];repeat' (first|(apply hK2;clear hK2 K2)|apply And.intro|intro hb)))))|apply T.skip|apply T.exit|refine T.zg rfl ?_|refine T.zf rfl ?_|refine T.cond rfl (fun hc=>?_) (fun hc=>?_)|apply T.ret|simp only [zb,za,reduceIte,Nat.reduceEqDiff]|((repeat ((fail_if_success apply hK);clear hK K));apply hK;clear hK K))
      all_goals (refine zH.ret (.inr rfl) Tryz.results29 ?_;simp only [zw,zt,zq,simprocAttr,az,];(try simp [immB,kndB,h1,ho,hf,h15,y18]))
     | false =>
      repeat' (first|refine T.zh fun K hK=>?_|apply T.block|(refine T.reg (by kernel_rfl) fun K' hK'=>?_;simp only [bz];(with_reducible repeat' (first|(apply WL.fin;apply hK';clear hK' K')|(refine WL.step fun K2 hK2=>?_;simp only [simprocAttr,az,evC,Bool.not_true,Bool.not_false,bne_self_eq_false,ho,hf,h15,y18];repeat' (first|(apply hK2;clear hK2 K2)|apply And.intro|intro hb)))))|apply T.skip|apply T.exit|refine T.zg rfl ?_|refine T.zf rfl ?_|refine T.cond rfl (fun hc=>?_) (fun hc=>?_)|apply T.ret|simp only [zb,za,reduceIte,Nat.reduceEqDiff]|((repeat ((fail_if_success apply hK);clear hK K));apply hK;clear hK K))
      all_goals (refine zH.ret (.inr rfl) Tryz.results29 ?_;simp only [zw,zt,zq,simprocAttr,az,];(try simp [immB,kndB,h1,ho,hf,h15,y18]))
    | false =>
     cases h17:(x.kind==17) with
     | true =>
      cases y16:(y.kind==16) with
      | true =>
       repeat' (first|refine T.zh fun K hK=>?_|apply T.block|(refine T.reg (by kernel_rfl) fun K' hK'=>?_;simp only [bz];(with_reducible repeat' (first|(apply WL.fin;apply hK';clear hK' K')|(refine WL.step fun K2 hK2=>?_;simp only [simprocAttr,az,evC,Bool.not_true,Bool.not_false,bne_self_eq_false,ho,hf,h15,h17,y16];repeat' (first|(apply hK2;clear hK2 K2)|apply And.intro|intro hb)))))|apply T.skip|apply T.exit|refine T.zg rfl ?_|refine T.zf rfl ?_|refine T.cond rfl (fun hc=>?_) (fun hc=>?_)|apply T.ret|simp only [zb,za,reduceIte,Nat.reduceEqDiff]|((repeat ((fail_if_success apply hK);clear hK K));apply hK;clear hK K))
       all_goals (refine zH.ret (.inr rfl) Tryz.results29 ?_;simp only [zw,zt,zq,simprocAttr,az,];(try simp [immB,kndB,h1,ho,hf,h15,h17,y16]))
      | false =>
       repeat' (first|refine T.zh fun K hK=>?_|apply T.block|(refine T.reg (by kernel_rfl) fun K' hK'=>?_;simp only [bz];(with_reducible repeat' (first|(apply WL.fin;apply hK';clear hK' K')|(refine WL.step fun K2 hK2=>?_;simp only [simprocAttr,az,evC,Bool.not_true,Bool.not_false,bne_self_eq_false,ho,hf,h15,h17,y16];repeat' (first|(apply hK2;clear hK2 K2)|apply And.intro|intro hb)))))|apply T.skip|apply T.exit|refine T.zg rfl ?_|refine T.zf rfl ?_|refine T.cond rfl (fun hc=>?_) (fun hc=>?_)|apply T.ret|simp only [zb,za,reduceIte,Nat.reduceEqDiff]|((repeat ((fail_if_success apply hK);clear hK K));apply hK;clear hK K))
       all_goals (refine zH.ret (.inr rfl) Tryz.results29 ?_;simp only [zw,zt,zq,simprocAttr,az,];(try simp [immB,kndB,h1,ho,hf,h15,h17,y16]))
     | false =>
      cases h19:(x.kind==19) with
      | true =>
       repeat' (first|refine T.zh fun K hK=>?_|apply T.block|(refine T.reg (by kernel_rfl) fun K' hK'=>?_;simp only [bz];(with_reducible repeat' (first|(apply WL.fin;apply hK';clear hK' K')|(refine WL.step fun K2 hK2=>?_;simp only [simprocAttr,az,evC,Bool.not_true,Bool.not_false,bne_self_eq_false,ho,hf,h15,h17,h19];repeat' (first|(apply hK2;clear hK2 K2)|apply And.intro|intro hb)))))|apply T.skip|apply T.exit|refine T.zg rfl ?_|refine T.zf rfl ?_|refine T.cond rfl (fun hc=>?_) (fun hc=>?_)|apply T.ret|simp only [zb,za,reduceIte,Nat.reduceEqDiff]|((repeat ((fail_if_success apply hK);clear hK K));apply hK;clear hK K))
       all_goals (refine zH.ret (.inr rfl) Tryz.results29 ?_;simp only [zw,zt,zq,simprocAttr,az,];(try simp [immB,kndB,h1,ho,hf,h15,h17,h19]))
      | false =>
       cases h7:(x.kind==7) with
       | true =>
        cases y6:(y.kind==6) with
        | true =>
         repeat' (first|refine T.zh fun K hK=>?_|apply T.block|(refine T.reg (by kernel_rfl) fun K' hK'=>?_;simp only [bz];(with_reducible repeat' (first|(apply WL.fin;apply hK';clear hK' K')|(refine WL.step fun K2 hK2=>?_;simp only [simprocAttr,az,evC,Bool.not_true,Bool.not_false,bne_self_eq_false,ho,hf,h15,h17,h19,h7,y6];repeat' (first|(apply hK2;clear hK2 K2)|apply And.intro|intro hb)))))|apply T.skip|apply T.exit|refine T.zg rfl ?_|refine T.zf rfl ?_|refine T.cond rfl (fun hc=>?_) (fun hc=>?_)|apply T.ret|simp only [zb,za,reduceIte,Nat.reduceEqDiff]|((repeat ((fail_if_success apply hK);clear hK K));apply hK;clear hK K))
         all_goals (refine zH.ret (.inr rfl) Tryz.results29 ?_;simp only [zw,zt,zq,simprocAttr,az,];(try simp [immB,kndB,h1,ho,hf,h15,h17,h19,h7,y6]))
        | false =>
         repeat' (first|refine T.zh fun K hK=>?_|apply T.block|(refine T.reg (by kernel_rfl) fun K' hK'=>?_;simp only [bz];(with_reducible repeat' (first|(apply WL.fin;apply hK';clear hK' K')|(refine WL.step fun K2 hK2=>?_;simp only [simprocAttr,az,evC,Bool.not_true,Bool.not_false,bne_self_eq_false,ho,hf,h15,h17,h19,h7,y6];repeat' (first|(apply hK2;clear hK2 K2)|apply And.intro|intro hb)))))|apply T.skip|apply T.exit|refine T.zg rfl ?_|refine T.zf rfl ?_|refine T.cond rfl (fun hc=>?_) (fun hc=>?_)|apply T.ret|simp only [zb,za,reduceIte,Nat.reduceEqDiff]|((repeat ((fail_if_success apply hK);clear hK K));apply hK;clear hK K))
         all_goals (refine zH.ret (.inr rfl) Tryz.results29 ?_;simp only [zw,zt,zq,simprocAttr,az,];(try simp [immB,kndB,h1,ho,hf,h15,h17,h19,h7,y6]))
       | false =>
        cases h9:(x.kind==9) with
        | true =>
         repeat' (first|refine T.zh fun K hK=>?_|apply T.block|(refine T.reg (by kernel_rfl) fun K' hK'=>?_;simp only [bz];(with_reducible repeat' (first|(apply WL.fin;apply hK';clear hK' K')|(refine WL.step fun K2 hK2=>?_;simp only [simprocAttr,az,evC,Bool.not_true,Bool.not_false,bne_self_eq_false,ho,hf,h15,h17,h19,h7,h9];repeat' (first|(apply hK2;clear hK2 K2)|apply And.intro|intro hb)))))|apply T.skip|apply T.exit|refine T.zg rfl ?_|refine T.zf rfl ?_|refine T.cond rfl (fun hc=>?_) (fun hc=>?_)|apply T.ret|simp only [zb,za,reduceIte,Nat.reduceEqDiff]|((repeat ((fail_if_success apply hK);clear hK K));apply hK;clear hK K))
         all_goals (refine zH.ret (.inr rfl) Tryz.results29 ?_;simp only [zw,zt,zq,simprocAttr,az,];(try simp [immB,kndB,h1,ho,hf,h15,h17,h19,h7,h9]))
        | false =>
         cases h10:(x.kind==10) with
         | true =>
          repeat' (first|refine T.zh fun K hK=>?_|apply T.block|(refine T.reg (by kernel_rfl) fun K' hK'=>?_;simp only [bz];(with_reducible repeat' (first|(apply WL.fin;apply hK';clear hK' K')|(refine WL.step fun K2 hK2=>?_;simp only [simprocAttr,az,evC,Bool.not_true,Bool.not_false,bne_self_eq_false,ho,hf,h15,h17,h19,h7,h9,h10];repeat' (first|(apply hK2;clear hK2 K2)|apply And.intro|intro hb)))))|apply T.skip|apply T.exit|refine T.zg rfl ?_|refine T.zf rfl ?_|refine T.cond rfl (fun hc=>?_) (fun hc=>?_)|apply T.ret|simp only [zb,za,reduceIte,Nat.reduceEqDiff]|((repeat ((fail_if_success apply hK);clear hK K));apply hK;clear hK K))
          all_goals (refine zH.ret (.inr rfl) Tryz.results29 ?_;simp only [zw,zt,zq,simprocAttr,az,];(try simp [immB,kndB,h1,ho,hf,h15,h17,h19,h7,h9,h10]))
         | false =>
          cases h12:(x.kind==12) with
          | true =>
           repeat' (first|refine T.zh fun K hK=>?_|apply T.block|(refine T.reg (by kernel_rfl) fun K' hK'=>?_;simp only [bz];(with_reducible repeat' (first|(apply WL.fin;apply hK';clear hK' K')|(refine WL.step fun K2 hK2=>?_;simp only [simprocAttr,az,evC,Bool.not_true,Bool.not_false,bne_self_eq_false,ho,hf,h15,h17,h19,h7,h9,h10,h12];repeat' (first|(apply hK2;clear hK2 K2)|apply And.intro|intro hb)))))|apply T.skip|apply T.exit|refine T.zg rfl ?_|refine T.zf rfl ?_|refine T.cond rfl (fun hc=>?_) (fun hc=>?_)|apply T.ret|simp only [zb,za,reduceIte,Nat.reduceEqDiff]|((repeat ((fail_if_success apply hK);clear hK K));apply hK;clear hK K))
           all_goals (refine zH.ret (.inr rfl) Tryz.results29 ?_;simp only [zw,zt,zq,simprocAttr,az,];(try simp [immB,kndB,h1,ho,hf,h15,h17,h19,h7,h9,h10,h12]))
          | false =>
           cases h4:(x.kind==4) with
           | true =>
            cases y3:(y.kind==3) with
            | true =>
             repeat' (first|refine T.zh fun K hK=>?_|apply T.block|(refine T.reg (by kernel_rfl) fun K' hK'=>?_;simp only [bz];(repeat' (first|(with_reducible refine WL.fin ?_;apply hK';clear hK' K')|((with_reducible refine WL.step fun K2 hK2=>?_);simp only [simprocAttr,az,evC,Bool.not_true,Bool.not_false,bne_self_eq_false,ho,hf,h15,h17,h19,h7,h9,h10,h12,h4,y3];(repeat' (first|with_reducible (first|(apply hK2;clear hK2 K2)|apply And.intro|intro hb)|((with_reducible first|apply zl|apply zm);case h=>exact CallV.plain (Ent.of Tryz.func45 (by kernel_rfl) rfl) (hA) (by simp [AV.okB]))))))))|apply T.skip|apply T.exit|refine T.zg rfl ?_|refine T.zf rfl ?_|refine T.cond rfl (fun hc=>?_) (fun hc=>?_)|apply T.ret|simp only [zb,za,reduceIte,Nat.reduceEqDiff]|((repeat ((fail_if_success apply hK);clear hK K));apply hK;clear hK K))
             all_goals (refine zH.ret (.inr rfl) Tryz.results29 ?_;simp only [zw,zt,zq,simprocAttr,az,];(try simp [immB,kndB,h1,ho,hf,h15,h17,h19,h7,h9,h10,h12,h4,y3]))
            | false =>
             cases y5:(y.kind==5) with
             | true =>
              repeat' (first|refine T.zh fun K hK=>?_|apply T.block|(refine T.reg (by kernel_rfl) fun K' hK'=>?_;simp only [bz];(repeat' (first|(with_reducible refine WL.fin ?_;apply hK';clear hK' K')|((with_reducible refine WL.step fun K2 hK2=>?_);simp only [simprocAttr,az,evC,Bool.not_true,Bool.not_false,bne_self_eq_false,ho,hf,h15,h17,h19,h7,h9,h10,h12,h4,y3,y5];(repeat' (first|with_reducible (first|(apply hK2;clear hK2 K2)|apply And.intro|intro hb)|((with_reducible first|apply zl|apply zm);case h=>exact CallV.plain (Ent.of Tryz.func45 (by kernel_rfl) rfl) (hA) (by simp [AV.okB]))))))))|apply T.skip|apply T.exit|refine T.zg rfl ?_|refine T.zf rfl ?_|refine T.cond rfl (fun hc=>?_) (fun hc=>?_)|apply T.ret|simp only [zb,za,reduceIte,Nat.reduceEqDiff]|((repeat ((fail_if_success apply hK);clear hK K));apply hK;clear hK K))
              all_goals (refine zH.ret (.inr rfl) Tryz.results29 ?_;simp only [zw,zt,zq,simprocAttr,az,];(try simp [immB,kndB,h1,ho,hf,h15,h17,h19,h7,h9,h10,h12,h4,y3,y5]))
             | false =>
              repeat' (first|refine T.zh fun K hK=>?_|apply T.block|(refine T.reg (by kernel_rfl) fun K' hK'=>?_;simp only [bz];(repeat' (first|(with_reducible refine WL.fin ?_;apply hK';clear hK' K')|((with_reducible refine WL.step fun K2 hK2=>?_);simp only [simprocAttr,az,evC,Bool.not_true,Bool.not_false,bne_self_eq_false,ho,hf,h15,h17,h19,h7,h9,h10,h12,h4,y3,y5];(repeat' (first|with_reducible (first|(apply hK2;clear hK2 K2)|apply And.intro|intro hb)|((with_reducible first|apply zl|apply zm);case h=>exact CallV.plain (Ent.of Tryz.func45 (by kernel_rfl) rfl) (hA) (by simp [AV.okB]))))))))|apply T.skip|apply T.exit|refine T.zg rfl ?_|refine T.zf rfl ?_|refine T.cond rfl (fun hc=>?_) (fun hc=>?_)|apply T.ret|simp only [zb,za,reduceIte,Nat.reduceEqDiff]|((repeat ((fail_if_success apply hK);clear hK K));apply hK;clear hK K))
              all_goals (refine zH.ret (.inr rfl) Tryz.results29 ?_;simp only [zw,zt,zq,simprocAttr,az,];(try simp [immB,kndB,h1,ho,hf,h15,h17,h19,h7,h9,h10,h12,h4,y3,y5]))
           | false =>
            cases h5:(x.kind==5) with
            | true =>
             cases y3:(y.kind==3) with
             | true =>
              repeat' (first|refine T.zh fun K hK=>?_|apply T.block|(refine T.reg (by kernel_rfl) fun K' hK'=>?_;simp only [bz];(repeat' (first|(with_reducible refine WL.fin ?_;apply hK';clear hK' K')|((with_reducible refine WL.step fun K2 hK2=>?_);simp only [simprocAttr,az,evC,Bool.not_true,Bool.not_false,bne_self_eq_false,ho,hf,h15,h17,h19,h7,h9,h10,h12,h4,h5,y3];(repeat' (first|with_reducible (first|(apply hK2;clear hK2 K2)|apply And.intro|intro hb)|((with_reducible first|apply zl|apply zm);case h=>exact CallV.plain (Ent.of Tryz.func45 (by kernel_rfl) rfl) (hA) (by simp [AV.okB]))))))))|apply T.skip|apply T.exit|refine T.zg rfl ?_|refine T.zf rfl ?_|refine T.cond rfl (fun hc=>?_) (fun hc=>?_)|apply T.ret|simp only [zb,za,reduceIte,Nat.reduceEqDiff]|((repeat ((fail_if_success apply hK);clear hK K));apply hK;clear hK K))
              all_goals (refine zH.ret (.inr rfl) Tryz.results29 ?_;simp only [zw,zt,zq,simprocAttr,az,];(try simp [immB,kndB,h1,ho,hf,h15,h17,h19,h7,h9,h10,h12,h4,h5,y3]))
             | false =>
              cases y5:(y.kind==5) with
              | true =>
               repeat' (first|refine T.zh fun K hK=>?_|apply T.block|(refine T.reg (by kernel_rfl) fun K' hK'=>?_;simp only [bz];(repeat' (first|(with_reducible refine WL.fin ?_;apply hK';clear hK' K')|((with_reducible refine WL.step fun K2 hK2=>?_);simp only [simprocAttr,az,evC,Bool.not_true,Bool.not_false,bne_self_eq_false,ho,hf,h15,h17,h19,h7,h9,h10,h12,h4,h5,y3,y5];(repeat' (first|with_reducible (first|(apply hK2;clear hK2 K2)|apply And.intro|intro hb)|((with_reducible first|apply zl|apply zm);case h=>exact CallV.plain (Ent.of Tryz.func45 (by kernel_rfl) rfl) (hA) (by simp [AV.okB]))))))))|apply T.skip|apply T.exit|refine T.zg rfl ?_|refine T.zf rfl ?_|refine T.cond rfl (fun hc=>?_) (fun hc=>?_)|apply T.ret|simp only [zb,za,reduceIte,Nat.reduceEqDiff]|((repeat ((fail_if_success apply hK);clear hK K));apply hK;clear hK K))
               all_goals (refine zH.ret (.inr rfl) Tryz.results29 ?_;simp only [zw,zt,zq,simprocAttr,az,];(try simp [immB,kndB,h1,ho,hf,h15,h17,h19,h7,h9,h10,h12,h4,h5,y3,y5]))
              | false =>
               repeat' (first|refine T.zh fun K hK=>?_|apply T.block|(refine T.reg (by kernel_rfl) fun K' hK'=>?_;simp only [bz];(repeat' (first|(with_reducible refine WL.fin ?_;apply hK';clear hK' K')|((with_reducible refine WL.step fun K2 hK2=>?_);simp only [simprocAttr,az,evC,Bool.not_true,Bool.not_false,bne_self_eq_false,ho,hf,h15,h17,h19,h7,h9,h10,h12,h4,h5,y3,y5];(repeat' (first|with_reducible (first|(apply hK2;clear hK2 K2)|apply And.intro|intro hb)|((with_reducible first|apply zl|apply zm);case h=>exact CallV.plain (Ent.of Tryz.func45 (by kernel_rfl) rfl) (hA) (by simp [AV.okB]))))))))|apply T.skip|apply T.exit|refine T.zg rfl ?_|refine T.zf rfl ?_|refine T.cond rfl (fun hc=>?_) (fun hc=>?_)|apply T.ret|simp only [zb,za,reduceIte,Nat.reduceEqDiff]|((repeat ((fail_if_success apply hK);clear hK K));apply hK;clear hK K))
               all_goals (refine zH.ret (.inr rfl) Tryz.results29 ?_;simp only [zw,zt,zq,simprocAttr,az,];(try simp [immB,kndB,h1,ho,hf,h15,h17,h19,h7,h9,h10,h12,h4,h5,y3,y5]))
            | false =>
             repeat' (first|refine T.zh fun K hK=>?_|apply T.block|(refine T.reg (by kernel_rfl) fun K' hK'=>?_;simp only [bz];(with_reducible repeat' (first|(apply WL.fin;apply hK';clear hK' K')|(refine WL.step fun K2 hK2=>?_;simp only [simprocAttr,az,evC,Bool.not_true,Bool.not_false,bne_self_eq_false,ho,hf,h15,h17,h19,h7,h9,h10,h12,h4,h5];repeat' (first|(apply hK2;clear hK2 K2)|apply And.intro|intro hb)))))|apply T.skip|apply T.exit|refine T.zg rfl ?_|refine T.zf rfl ?_|refine T.cond rfl (fun hc=>?_) (fun hc=>?_)|apply T.ret|simp only [zb,za,reduceIte,Nat.reduceEqDiff]|((repeat ((fail_if_success apply hK);clear hK K));apply hK;clear hK K))
             all_goals (refine zH.ret (.inr rfl) Tryz.results29 ?_;simp only [zw,zt,zq,simprocAttr,az,];(try simp [immB,kndB,h1,ho,hf,h15,h17,h19,h7,h9,h10,h12,h4,h5]))
end Go.Proofs.YtdlgoofjechocaaGreatDoor
namespace Go.Proofs.YtdlgoofjechocaaGreatDoor
open Go.RowKit Go.Sort Go.Maps
theorem zk.frm (s:ASt) (fr' : List (Nat × AV)) (hp' : Hp) (m:Nat) (he : ∀ t,hp'.lookup t=s.hp.lookup t) (hfr : ∀ p ∈ fr',AVle (s.get p.1) p.2) (hok:(fr'.all fun p=>p.2.okB m)=true) (hhp : ∀ t o,hp'.lookup t=some o→t<m∧o.okB m=true):zk s ⟨fr',hp',s.n,m⟩:=fun L loc ac w hr=>by
 refine ⟨loc,⟨hr.defers,hr.size,fun t _=>?_,⟨fun t o ht=>?_,fun t ht=>hr.hp.dead t (by rw [← he t];exact ht),hr.hp.apart,hr.hp.inL,hr.hp.notL⟩⟩,Ext.refl _ _⟩
 ·unfold ASt.get
  cases ht:fr'.lookup t with
  | none=>exact .zA _
  | some x =>
   have hm:=qc ht
   exact (hfr _ hm _ _ _ _ _ (hr.fr t trivial)).low (List.all_eq_true.1 hok _ hm)
 ·obtain ⟨_,u,h3,h4⟩:=hr.hp.at' t o (by rw [← he t];exact ht)
  obtain ⟨h5,h6⟩:=hhp t o ht
  exact ⟨h5,u,h3,h4.low h6⟩
def owns:Nat→Nat→List AV
 | _,0 => []
 | b,n+1 => .own b :: owns (b+1) n
theorem z1d : ∀ (n b:Nat),(owns b n).length=n
 | 0,b=>rfl
 | n+1,b=>by rw [owns,List.length_cons,z1d n]
theorem z4J : ∀ (n b i:Nat),i<n→(owns b n)[i]? = some (.own (i+b))
 | 0,b,i,h=>by omega
 | n+1,b,0,h=>by simp [owns]
 | n+1,b,i+1,h=>by rw [owns,List.getElem?_cons_succ,z4J n (b+1) i (by omega),show i+(b+1)=i+1+b by omega]
theorem z8Q : ∀ (n b:Nat),∀ x ∈ owns b n,∃ i,i<n∧x = .own (i+b)
 | 0,b,x,h=>by cases h
 | n+1,b,x,h=>by
  rcases List.mem_cons.1 h with h|h
  ·exact ⟨0,by omega,by rw [h,Nat.zero_add]⟩
  ·obtain ⟨i,h1,h2⟩:=z8Q n (b+1) x h
   exact ⟨i+1,by omega,by rw [h2];congr 1;omega⟩
theorem z7B : ∀ (n b:Nat),owns b (n+1)=owns b n ++ [.own (n+b)]
 | 0,b=>by simp [owns]
 | n+1,b=>by
  rw [owns,z7B n (b+1),owns,List.cons_append,show n+(b+1)=n+1+b by omega]
theorem z4D (t:Nat) (y:AV) : ∀ (n b:Nat),(t<b∨b+n≤t)→(owns b n).map (AV.sub t y)=owns b n
 | 0,b,_=>rfl
 | n+1,b,h=>by
  rw [owns,List.map_cons,z4D t y n (b+1) (by omega)]
  congr 1
  simp only [AV.sub]
  rw [if_neg (by omega)]
theorem z6Z (t t' : Nat) : ∀ (n b:Nat),(t<b∨b+n≤t)→(t' < b∨b+n≤t')→(owns b n).map (AV.ren t t')=owns b n
 | 0,b,_,_=>rfl
 | n+1,b,h,h'=>by
  rw [owns,List.map_cons,z6Z t t' n (b+1) (by omega) (by omega),AV.ql,if_neg (by omega),if_neg (by omega)]
theorem z9o (n b m:Nat) (h:b+n≤m):(owns b n).all (AV.okB m)=true:=by
 rw [List.all_eq_true]
 intro x hx
 obtain ⟨i,h1,rfl⟩:=z8Q n b x hx
 simp [AV.okB];omega
end Go.Proofs.YtdlgoofjechocaaGreatDoor
namespace Go.Proofs.YtdlgoofjechocaaGreatDoor
open Go.RowKit Go.Sort
def immL (l:List Ev) (i j:Nat):Bool:=match l[i]?,l[j]? with
 | some x,some y=>immB l x y i j
 | _,_=>false
def hbB (l:List Ev) (j a:Nat):Bool:=(List.range j).attach.any fun ⟨i,hi⟩=>immL l i j&&(a==i||(decide (a<i)&&hbB l i a))
termination_by j
decreasing_by exact List.mem_range.1 hi
def colB (l:List Ev) (j r a:Nat):Bool:=(List.range j).any fun i=>decide (r≤i)&&immL l i j&&(a==i||(decide (a<i)&&hbB l i a))
theorem hbB_eq (l:List Ev) (j a:Nat):hbB l j a=colB l j 0 a:=by
 rw [hbB,colB]
 simp only [Nat.zero_le,decide_true,Bool.true_and]
 conv=>rhs;rw [← List.attach_map_subtype_val (List.range j)]
 rw [List.any_map];rfl
theorem z4t (l:List Ev) (j a:Nat) (h:hbB l j a=true):a<j:=by
 rw [hbB_eq,colB,List.any_eq_true] at h
 obtain ⟨i,hi,h⟩:=h
 have:=List.mem_range.1 hi
 simp only [Bool.and_eq_true,Bool.or_eq_true,beq_iff_eq,decide_eq_true_eq] at h
 omega
theorem immL_eq {l:List Ev} {i j:Nat} {x y:Ev} (hx:l[i]? = some x) (hy:l[j]? = some y):immL l i j=immB l x y i j:=by simp [immL,hx,hy]
end Go.Proofs.YtdlgoofjechocaaGreatDoor
namespace Go.Proofs.YtdlgoofjechocaaGreatDoor
open Go.RowKit Go.Sort Go.Maps
structure Ed where
 f:Int
 t:Int
 k:Int
def edC (x:Ed):List PV := [.val (.int .i64 x.f),.val (.int .i64 x.t),.val (.int .i64 x.k)]
def pubK (k:Int):Bool := !((k==14)||(k==4)||(k==5)||(k==1)||(k==2)||(k==3))
def rdK (k:Int):Bool:=(k==3)||(k==5)
def aftB (a b:Int):Bool :=
 if a==7 then (b==6)||(b==8) else if a==9 then b==6 else if a==10 then b==11 else if a==12 then b==13 else if a==19 then b==20 else false
def z5o (f e:Ev):Bool:=(f.kind==15)&&(e.kind==18)&&(f.k==e.k)
def z5A (f e:Ev):Bool:=(f.kind==17)&&(e.kind==16)&&(e.k==IntKind.i64.wrap (f.k+e.n))
def z2q (f e:Ev):Bool:=z5o f e||z5A f e||aftB f.kind e.kind
def qA (l:List Ev) (p:Ev→Bool):Nat→Option Nat
 | 0=>none
 | j+1=>if (l[j]?).any p then some j else qA l p j
def qV (g:Int) (d:Ev):Bool:=(d.kind==14)&&(d.k==g)
def wrAt (o f:Int) (z:Ev):Bool:=((z.kind==4)||(z.kind==5))&&(z.obj==o)&&(z.off==f)
def z3t (o f:Int) (z:Ev):Bool:=pubK z.kind&&(z.obj==o)&&(z.off==f)
def atL (l:List Ev) (o f:Int) (j:Nat):List Nat:=(List.range j).filter fun k=>(l[k]?).any (z3t o f)
def z2Y (l:List Ev) (e:Ev) (j:Nat):List Ed:=match qA l (fun d=>d.g==e.g) j with
 | some i => [⟨i,j,0⟩]
 | none=>match qA l (qV e.g) j with
  | some i => [⟨i,j,e.kind⟩]
  | none => []
def z0I (l:List Ev) (e:Ev) (j:Nat) (is:List Nat):List Ed:=(is.filter fun i=>(l[i]?).any fun f=>z2q f e).map fun i:Nat=>⟨(i:Int),j,e.kind⟩
def z2o (l:List Ev) (e:Ev) (j:Nat):List Ed:=match qA l (wrAt e.obj e.off) j with
 | some i=>if rdK e.kind then [⟨i,j,e.kind⟩] else []
 | none => []
def z3K (l:List Ev) (e:Ev) (j:Nat):List Ed:=z2Y l e j++z0I l e j (atL l e.obj e.off j)++z2o l e j
def z00 (l:List Ev):Nat→List Ed
 | 0 => []
 | j+1=>z00 l j++match l[j]? with
  | some e=>z3K l e j
  | none => []
theorem z1N {l:List Ev} {j:Nat} {e:Ev} (h:l[j]? = some e) (p:Ev→Bool):qA l p (j+1)=if p e then some j else qA l p j:=by
 rw [qA,h];rfl
theorem z4B {l:List Ev} {p:Ev→Bool} : ∀ {j i:Nat},qA l p j=some i→i<j∧(l[i]?).any p=true
 | 0,i,h=>by cases h
 | j+1,i,h=>by
  rw [qA] at h
  split at h
  ·cases h;exact ⟨Nat.lt_succ_self _,by assumption⟩
  ·have:=z4B h;exact ⟨by omega,this.2⟩
theorem z2i {l:List Ev} {j:Nat} {e:Ev} (h:l[j]? = some e) (o f:Int):atL l o f (j+1)=atL l o f j++if z3t o f e then [j] else []:=by
 unfold atL
 rw [List.range_succ,List.filter_append]
 congr 1
 simp only [List.filter_cons,List.filter_nil,h,Option.any_some]
theorem atL_mem {l:List Ev} {o f:Int} {j i:Nat} (h:i ∈ atL l o f j):i<j∧(l[i]?).any (z3t o f)=true:=by
 unfold atL at h
 obtain ⟨h1,h2⟩:=List.mem_filter.1 h
 exact ⟨List.mem_range.1 h1,h2⟩
theorem z2P {l:List Ev} {j:Nat} {e:Ev} (h:l[j]? = some e):z00 l (j+1)=z00 l j++z3K l e j:=by
 rw [z00,h]
theorem z9J (l:List Ev) (e:Ev) (j i:Nat) (is:List Nat) (f:Ev) (h:l[i]? = some f):z0I l e j (i :: is)=(if z2q f e then [⟨i,j,e.kind⟩] else [])++z0I l e j is:=by
 unfold z0I
 rw [List.filter_cons,h,Option.any_some]
 split <;> simp
noncomputable def plA (m:Int→Int→Option AV) (l:Lit):Option AV:=(unk l).bind fun q=>m q.1 q.2
theorem z5M (m:Int→Int→Option AV) {o p:Int} (ho:inI o) (hp:inI p):plA m (kyl o p)=m o p:=by simp [plA,unk_kyl ho hp]
theorem plA_map (m:Int→Int→Option AV) (F:AV→AV):(fun l=>(plA m l).map F)=plA fun x y=>(m x y).map F:=by
 funext l
 unfold plA
 cases unk l with
 | none=>rfl
 | some q=>rfl
theorem plA_none:plA (fun _ _=>none)=fun _=>none:=by
 funext l
 unfold plA
 cases unk l <;> rfl
theorem AO.z0t (t t' : Nat) (pin:Option Nat) (ty:TypeId) (cs:List AV):AO.ren t t' (.boxP pin ty cs) = .boxP pin ty (cs.map (AV.ren t t')):=rfl
theorem AO.qK (t t' : Nat) (e n:Nat) (rows:List (List PV)):AO.ren t t' (.row e n rows) = .row e n rows:=rfl
theorem AO.z0C (t t' : Nat) (pin:Option Nat) (P:Program) (k n:Nat) (f:Lit→Option Value):AO.ren t t' (.map pin P k n f) = .map pin P k n f:=rfl
theorem AO.z0z (t t' : Nat) (u:Value) (ob:Obj):AO.ren t t' (.raw u ob) = .raw u ob:=rfl
theorem AO.cut_box (t m:Nat) (pin:Option Nat) (ty:TypeId) (cs:List AV):AO.cut t m (.boxP pin ty cs) = .boxP pin ty (cs.map (AV.cut t m)):=rfl
theorem AO.cut_row (t m:Nat) (e n:Nat) (rows:List (List PV)):AO.cut t m (.row e n rows) = .row e n rows:=rfl
theorem AO.z1A (n:Nat) (ks:List Nat) (pin:Option Nat) (ty:TypeId) (cs:List AV):AO.keep n ks (.boxP pin ty cs) = .boxP pin ty (cs.map (AV.keep n ks)):=rfl
theorem AO.keep_map (n:Nat) (ks:List Nat) (pin:Option Nat) (P:Program) (k m:Nat) (f:Lit→Option Value):AO.keep n ks (.map pin P k m f) = .map pin P k m f:=rfl
theorem AO.z4b (b:Nat) (ty:TypeId) (cs:List AV):AO.handle (.boxP (some b) ty cs)=some (.pointer (some ⟨b,0,none⟩)):=rfl
theorem z6H {α:Type} (g : α→Value):inM g (fun _=>none)=fun _=>none:=by funext l;unfold inM;split <;> rfl
theorem z9l {α:Type} (g : α→Value):plM g (fun _ _=>none)=fun _=>none:=by funext l;unfold plM;cases unk l <;> rfl
theorem dnO_none:dnO (fun _ _=>false)=fun _ _=>none:=rfl
theorem zk.boxle (s:ASt) (t:Nat) (pin:Option Nat) (ty:TypeId) (cs cs' : List AV) (hlk:s.hp.lookup t=some (.boxP pin ty cs)) (hl:cs'.length=cs.length) (hle : ∀ (j:Nat) x',cs'[j]? = some x' → ∃ x,cs[j]? = some x∧AVle x x'):zk s { s with hp:=zF s.hp t (.boxP pin ty cs') }:=fun L loc ac w hr=>by
 refine ⟨loc,⟨hr.defers,hr.size,hr.fr,⟨fun k o hk=>?_,fun k hk=>?_,hr.hp.apart,hr.hp.inL,hr.hp.notL⟩⟩,Ext.refl _ _⟩
 ·change (zF s.hp t _).lookup k=some o at hk
  rw [zB] at hk
  by_cases e1:k=t
  ·subst e1
   rw [if_pos rfl,hlk] at hk
   cases hk
   obtain ⟨h1,u,h2,b,arr,h3,h4,h5,h6,h7,h8⟩:=hr.hp.at' k _ hlk
   refine ⟨h1,u,h2,b,arr,h3,h4,by rw [h5,hl],fun j x hx=>?_,h7,h8⟩
   obtain ⟨y,hy,hyx⟩:=hle j x hx
   exact hyx _ _ _ _ _ (h6 j y hy)
  ·rw [if_neg e1] at hk
   exact hr.hp.at' k o hk
 ·change (zF s.hp t _).lookup k=none at hk
  rw [zB] at hk
  by_cases e1:k=t
  ·subst e1;rw [if_pos rfl,hlk] at hk;cases hk
  ·rw [if_neg e1] at hk;exact hr.hp.dead k hk
theorem newS_ok:MemC Tryz.prog 86 4 [] [] fun hp' r => ∃ b,hp' = hpS b ps0 0 0 0∧r = .ptr 0 0:=by
 refine MemC.of Tryz.func86 rfl 6 rfl (by decide) ?_;simp only [qi,frOf]
 repeat' (first|refine T.zh fun K hK=>?_|apply T.block|apply T.skip|apply T.exit|refine T.zg rfl ?_|refine T.zf rfl ?_|refine T.cond rfl (fun hc=>?_) (fun hc=>?_)|apply T.ret|simp only [zb,za,reduceIte,Nat.reduceEqDiff]|((repeat ((fail_if_success apply hK);clear hK K));apply hK;clear hK K))
 (refine T.reg (by kernel_rfl) fun K' hK'=>?_;simp only [bz];(with_reducible repeat' (first|(apply WL.fin;apply hK';clear hK' K')|(refine WL.step fun K2 hK2=>?_;simp only [simprocAttr,az];repeat' (first|(apply hK2;clear hK2 K2)|apply And.intro|intro hb))));all_goals ((try simp only [zb,za,reduceIte,Nat.reduceEqDiff]);(try ((repeat ((fail_if_success apply hK);clear hK K));apply hK;clear hK K))))
 repeat' (first|refine T.zh fun K hK=>?_|apply T.block|apply T.skip|apply T.exit|refine T.zg rfl ?_|refine T.zf rfl ?_|refine T.cond rfl (fun hc=>?_) (fun hc=>?_)|apply T.ret|simp only [zb,za,reduceIte,Nat.reduceEqDiff]|((repeat ((fail_if_success apply hK);clear hK K));apply hK;clear hK K))
 (refine T.reg (by kernel_rfl) fun K' hK'=>?_;simp only [bz];(with_reducible repeat' (first|(apply WL.fin;apply hK';clear hK' K')|(refine WL.step fun K2 hK2=>?_;simp only [simprocAttr,az];repeat' (first|(apply hK2;clear hK2 K2)|apply And.intro|intro hb))));all_goals ((try simp only [zb,za,reduceIte,Nat.reduceEqDiff]);(try ((repeat ((fail_if_success apply hK);clear hK K));apply hK;clear hK K))))
 refine T.weak (zk.ren _ 4 1) ?_;simp only [ASt.ren,AV.ql,AV.qZ,AV.qH,AV.z0n,AV.z1Q,AV.z0k,AV.qI,AV.qG,AV.z1a,AV.z0m,AV.z0l,AO.z0t,AO.qK,AO.z0C,AO.z0z,List.map_cons,List.map_nil,List.filter_cons,List.filter_nil,zy,qP,reduceIte,Nat.reduceEqDiff,Nat.reduceLT,Nat.reduceBneDiff,bne_self_eq_false,Bool.and_true,Bool.and_false,Bool.true_and,Bool.false_and,Bool.and_self,Bool.false_eq_true,ne_eq,not_false_eq_true,not_true_eq_false,and_self,and_true,true_and,and_false,]
 refine T.weak (zk.ren _ 5 2) ?_;simp only [ASt.ren,AV.ql,AV.qZ,AV.qH,AV.z0n,AV.z1Q,AV.z0k,AV.qI,AV.qG,AV.z1a,AV.z0m,AV.z0l,AO.z0t,AO.qK,AO.z0C,AO.z0z,List.map_cons,List.map_nil,List.filter_cons,List.filter_nil,zy,qP,reduceIte,Nat.reduceEqDiff,Nat.reduceLT,Nat.reduceBneDiff,bne_self_eq_false,Bool.and_true,Bool.and_false,Bool.true_and,Bool.false_and,Bool.and_self,Bool.false_eq_true,ne_eq,not_false_eq_true,not_true_eq_false,and_self,and_true,true_and,and_false,]
 refine T.weak (zk.ren _ 6 3) ?_;simp only [ASt.ren,AV.ql,AV.qZ,AV.qH,AV.z0n,AV.z1Q,AV.z0k,AV.qI,AV.qG,AV.z1a,AV.z0m,AV.z0l,AO.z0t,AO.qK,AO.z0C,AO.z0z,List.map_cons,List.map_nil,List.filter_cons,List.filter_nil,zy,qP,reduceIte,Nat.reduceEqDiff,Nat.reduceLT,Nat.reduceBneDiff,bne_self_eq_false,Bool.and_true,Bool.and_false,Bool.true_and,Bool.false_and,Bool.and_self,Bool.false_eq_true,ne_eq,not_false_eq_true,not_true_eq_false,and_self,and_true,true_and,and_false,]
 refine T.weak (zk.ren _ 7 0) ?_;simp only [ASt.ren,AV.ql,AV.qZ,AV.qH,AV.z0n,AV.z1Q,AV.z0k,AV.qI,AV.qG,AV.z1a,AV.z0m,AV.z0l,AO.z0t,AO.qK,AO.z0C,AO.z0z,List.map_cons,List.map_nil,List.filter_cons,List.filter_nil,zy,qP,reduceIte,Nat.reduceEqDiff,Nat.reduceLT,Nat.reduceBneDiff,bne_self_eq_false,Bool.and_true,Bool.and_false,Bool.true_and,Bool.false_and,Bool.and_self,Bool.false_eq_true,ne_eq,not_false_eq_true,not_true_eq_false,and_self,and_true,true_and,and_false,]
 refine T.pin 0 _ rfl fun b=>?_;simp only [zF,AO.pin,List.map_cons,List.map_nil,reduceIte,Nat.reduceEqDiff]
 refine T.weak (zk.boxle _ 0 (some b) 154 _ [.int 0,.int 1,.own 1,.own 2,.own 3,.p (.seq 1 []),.int 0,.int 0,.int 0,.int 0,.int 0] rfl rfl fun j x hx=>?_) ?_
 ·rcases j with _|_|_|_|_|_|_|_|_|_|_|j <;> cases hx <;> first|exact ⟨_,rfl,AVle.refl _⟩|exact ⟨_,rfl,AVle.nil _⟩
 simp only [zF,List.map_cons,List.map_nil,reduceIte,Nat.reduceEqDiff]
 refine T.ret ?_
 refine FinM.ret (s':=⟨[(0,.ptr 0 0)],hpS b ps0 0 0 0,6,4⟩) (r := .ptr 0 0) (.inr rfl) Tryz.results86 (by refine zk.of' rfl ?_;simp only [wks,reduceIte,Nat.reduceEqDiff,ASt.okB,AV.okB,Nat.reduceLT,implies_true,hpS,gpC,ps0,gp0,List.map_nil,AO.pin,z6H,z9l,dnO_none]) rfl ?_ ?_;(focus (simp only [zw,zt,zq,simprocAttr,az,];done))
 exact ⟨b,rfl,rfl⟩
end Go.Proofs.YtdlgoofjechocaaGreatDoor
namespace Go.Proofs.YtdlgoofjechocaaGreatDoor
open Go.RowKit Go.Sort
theorem AO.z4y (t t' : Nat) (e:Nat) (cs:List AV):AO.ren t t' (.arow e cs) = .arow e (cs.map (AV.ren t t')):=rfl
abbrev nilV:Value := .slice none 0 0
end Go.Proofs.YtdlgoofjechocaaGreatDoor
namespace Go.Proofs.YtdlgoofjechocaaGreatDoor
open Go.RowKit Go.Sort Go.Maps
theorem qh {α:Type} {f : α → α} {l:List α} (h : ∀ x ∈ l,f x=x):l.map f=l:=by
 rw [List.map_congr_left (g:=id) h,List.map_id]
theorem AV.z3a {t n:Nat} (y:AV) (h:n≤t) : ∀ x:AV,x.okB n=true→AV.sub t y x=x
 | .own k,hx=>by simp only [AV.okB,decide_eq_true_eq] at hx;simp only [AV.sub];rw [if_neg (by omega)]
 | .pre k m,hx=>by simp only [AV.okB,decide_eq_true_eq] at hx;simp only [AV.sub];rw [if_neg (by omega)]
 | .suf k j m,hx=>by simp only [AV.okB,decide_eq_true_eq] at hx;simp only [AV.sub];rw [if_neg (by omega)]
 | .ptr k m,hx=>by simp only [AV.okB,decide_eq_true_eq] at hx;simp only [AV.sub];rw [if_neg (by omega)]
 | .rptr k m i j,hx=>by simp only [AV.okB,decide_eq_true_eq] at hx;simp only [AV.sub];rw [if_neg (by omega)]
 | .fn f cs,hx=>by
  rw [AV.z1b,List.all_eq_true] at hx
  rw [AV.z5K,qh fun c hc=>AV.z3a y h c (hx c hc)]
 | .agg cs,hx=>by
  rw [AV.z0b,List.all_eq_true] at hx
  rw [AV.z4l,qh fun c hc=>AV.z3a y h c (hx c hc)]
 | .tup cs,hx=>by
  rw [AV.z4P,List.all_eq_true] at hx
  rw [AV.z3i,qh fun c hc=>AV.z3a y h c (hx c hc)]
 | .p x,_=>by simp only [AV.sub]
 | .elt r k,_=>by simp only [AV.sub]
 | .cap0,_=>by simp only [AV.sub]
 | .zA,_=>by simp only [AV.sub]
termination_by x=>SizeOf.sizeOf x
decreasing_by all_goals (have:=List.sizeOf_lt_of_mem hc;simp;omega)
theorem AV.z3O {t t' n:Nat} (h:n≤t) (h' : n≤t') : ∀ x:AV,x.okB n=true→AV.ren t t' x=x
 | .own k,hx=>by simp only [AV.okB,decide_eq_true_eq] at hx;rw [AV.ql,if_neg (by omega),if_neg (by omega)]
 | .suf k j m,hx=>by simp only [AV.okB,decide_eq_true_eq] at hx;rw [AV.ren_suf,if_neg (by omega),if_neg (by omega)]
 | .pre k m,hx=>by simp only [AV.okB,decide_eq_true_eq] at hx;rw [AV.z0n,if_neg (by omega),if_neg (by omega)]
 | .ptr k m,hx=>by simp only [AV.okB,decide_eq_true_eq] at hx;rw [AV.qZ,if_neg (by omega),if_neg (by omega)]
 | .rptr k m i j,hx=>by simp only [AV.okB,decide_eq_true_eq] at hx;rw [AV.qH,if_neg (by omega),if_neg (by omega)]
 | .fn f cs,hx=>by
  rw [AV.z1b,List.all_eq_true] at hx
  rw [AV.z1a,qh fun c hc=>AV.z3O h h' c (hx c hc)]
 | .agg cs,hx=>by
  rw [AV.z0b,List.all_eq_true] at hx
  rw [AV.z0m,qh fun c hc=>AV.z3O h h' c (hx c hc)]
 | .tup cs,hx=>by
  rw [AV.z4P,List.all_eq_true] at hx
  rw [AV.z0l,qh fun c hc=>AV.z3O h h' c (hx c hc)]
 | .p x,_=>by rw [AV.z1Q]
 | .elt r k,_=>by rw [AV.z0k]
 | .cap0,_=>by rw [AV.qG]
 | .zA,_=>by rw [AV.qI]
termination_by x=>SizeOf.sizeOf x
decreasing_by all_goals (have:=List.sizeOf_lt_of_mem hc;simp;omega)
theorem AO.z3a {t n:Nat} (y:AV) (h:n≤t) {o:AO} (ho:o.okB n=true):o.sub t y=o:=by
 cases o with
 | boxP pin ty cs=>rw [AO.z1I,List.all_eq_true] at ho;rw [AO.z4c,qh fun c hc=>AV.z3a y h c (ho c hc)]
 | row e m rows=>rfl
 | map pin P k m f=>rfl
 | raw u ob=>rfl
 | lrec l sp fr =>
  rw [AO.z3s,List.all_eq_true] at ho
  rw [AO.z3G,qh fun c hc=>by rw [AV.z3a y h c.2 (ho c hc)]]
 | amap P k m f q =>
  simp only [AO.okB,decide_eq_true_eq] at ho
  rw [AO.z9c]
  congr 1
  funext l
  cases hf:f l with
  | none=>rfl
  | some x=>rw [Option.map_some,AV.z3a y h x (ho l x hf)]
 | arow e cs=>rw [AO.z4I,List.all_eq_true] at ho;rw [AO.z3W,qh fun c hc=>AV.z3a y h c (ho c hc)]
theorem AO.z3O {t t' n:Nat} (h:n≤t) (h' : n≤t') {o:AO} (ho:o.okB n=true):o.ren t t' = o:=by
 cases o with
 | boxP pin ty cs=>rw [AO.z1I,List.all_eq_true] at ho;simp only [AO.ren];rw [qh fun c hc=>AV.z3O h h' c (ho c hc)]
 | row e m rows=>rfl
 | map pin P k m f=>rfl
 | raw u ob=>rfl
 | lrec l sp fr =>
  rw [AO.z3s,List.all_eq_true] at ho
  simp only [AO.ren]
  rw [qh fun c hc=>by rw [AV.z3O h h' c.2 (ho c hc)]]
 | amap P k m f q =>
  simp only [AO.okB,decide_eq_true_eq] at ho
  simp only [AO.ren]
  congr 1
  funext l
  cases hf:f l with
  | none=>rfl
  | some x=>rw [Option.map_some,AV.z3O h h' x (ho l x hf)]
 | arow e cs=>rw [AO.z4I,List.all_eq_true] at ho;simp only [AO.ren];rw [qh fun c hc=>AV.z3O h h' c (ho c hc)]
structure HpOk (n:Nat) (hp:Hp):Prop where
 ok : ∀ p ∈ hp,p.1<n∧p.2.okB n=true
 one : ∀ p ∈ hp,hp.lookup p.1=some p.2
namespace HpOk
variable {n:Nat} {hp:Hp} (h:HpOk n hp)
include h
theorem none {t:Nat} (ht:n≤t):hp.lookup t=Option.none:=by
 cases hl:hp.lookup t with
 | none=>rfl
 | some o=>have:=(h.ok _ (qc hl)).1;simp only at this;omega
theorem at' {t:Nat} {o:AO} (hl:hp.lookup t=some o):t<n∧o.okB n=true:=h.ok _ (qc hl)
theorem sub {t:Nat} (y:AV) (ht:n≤t):List.map (fun p=>(p.1,AO.sub t y p.2)) hp=hp:=qh fun p hp=>by rw [AO.z3a y ht (h.ok p hp).2]
theorem ren {t t' : Nat} (ht:n≤t) (ht' : n≤t'):List.map (fun p=>(p.1,AO.ren t t' p.2)) hp=hp:=qh fun p hp=>by rw [AO.z3O ht ht' (h.ok p hp).2]
theorem set {t:Nat} (o:AO) (ht:n≤t):List.map (fun p=>if p.1=t then (t,o) else p) hp=hp:=qh fun p hp=>by rw [if_neg];have:=(h.ok p hp).1;omega
theorem ne2 {t t' : Nat} (ht:n≤t) (ht' : n≤t'):List.filter (fun p=>p.1 != t&&p.1 != t') hp=hp:=List.filter_eq_self.2 fun p hp=>by have:=(h.ok p hp).1;simp;omega
theorem le:List.filter (fun p=>decide (n≤p.1)) hp = []:=List.filter_eq_nil_iff.2 fun p hp=>by have:=(h.ok p hp).1;simp;omega
theorem all:hp.all (fun p=>decide (p.1<n)&&p.2.okB n)=true:=List.all_eq_true.2 fun p hp=>by have:=h.ok p hp;simp [this.1,this.2]
end HpOk
theorem qg (a b:Hp) (t:Nat):List.lookup t (a++b)=(a.lookup t).or (b.lookup t):=z2V a b t
theorem z5q.of {P:Program} {fr:List (Nat × AV)} {hp:Hp} {n N y:Nat} {xs:List AV} {d:Option Nat} {K:ASt→Prop} (m:Nat) (A H H' : Hp) (l:Nat) (sp:LSpec) (fr0:List (Nat × AV)) (hs:hp=A++H) (hA : ∀ p ∈ A,m≤p.1) (hAk:A.map (fun p=>(p.1,p.2.keep m [y]))=A) (hH:HpOk m H) (hyc:YldC P l m H xs fun hp' r=>hp' = H' ∧ r = .bool true)
  (hlk:H.lookup y=some (.lrec l sp fr0)) (hk:Kept H H' y) (hN:m≤N) (hxs:(xs.all (·.okB m))=true) (hK:K (ASt.put ⟨fr.map fun p=>(p.1,p.2.keep m [y]),H' ++ A,n,N⟩ d (.bool true))):z5q P ⟨fr,hp,n,N⟩ y xs d K:=by
 have hAn : ∀ {t:Nat},t<m→A.lookup t=none:=fun {t} ht=>by
  cases hl:A.lookup t with
  | none=>rfl
  | some o=>have:=hA _ (qc hl);simp only at this;omega
 refine ⟨m,H,_,[y],l,sp,fr0,hyc,?_,⟨hN,fun p hp=>?_,fun p hp hlt=>?_⟩,hxs,?_⟩
 ·show List.lookup y hp=_
  rw [hs,qg,hAn (hH.at' hlk).1,hlk];rfl
 ·obtain ⟨h1,h2⟩:=hH.ok p hp
  refine ⟨?_,h1,h2⟩
  show List.lookup p.1 _=_
  rw [hs,qg,hAn h1,hH.one p hp];rfl
 ·have hp' : p ∈ A++H:=hs ▸ hp
  rcases List.mem_append.1 hp' with h1|h1
  ·have:=hA p h1;omega
  ·rw [hH.one p h1];rfl
 ·rintro hp' r ⟨rfl,rfl⟩
  refine ⟨fun t ht _=>?_,?_⟩
  ·rw [List.mem_singleton.1 ht];exact hk
  ·have e:ASt.zR ⟨fr,hp,n,N⟩ m [y] hp' = ⟨fr.map fun p=>(p.1,p.2.keep m [y]),hp' ++ A,n,N⟩:=by
    unfold ASt.zR
    simp only [hs,List.filter_append,hH.le,List.append_nil]
    rw [List.filter_eq_self.2 fun p hp=>by simpa using hA p hp,hAk]
   rw [e]
   exact hK
theorem zk.subs (s:ASt) (fr' : List (Nat × AV)) (hp' : Hp) (m:Nat) (he : ∀ t o,hp'.lookup t=some o→s.hp.lookup t=some o) (hfr : ∀ p ∈ fr',AVle (s.get p.1) p.2) (hok:(fr'.all fun p=>p.2.okB m)=true) (hhp : ∀ t o,hp'.lookup t=some o→t<m∧o.okB m=true):zk s ⟨fr',hp',s.n,m⟩:=fun L loc ac w hr=>by
 let loc' : Nat→Option Value:=fun t=>if (hp'.lookup t).isSome then loc t else none
 have hl : ∀ t u,loc' t=some u→loc t=some u:=fun t u h=>by
  simp only [loc'] at h
  split at h
  ·exact h
  ·cases h
 have hD : ∀ k,Dm L loc' k→Dm L loc k:=fun k hk=>hk.imp id fun ⟨t,u,h1,h2⟩=>⟨t,u,hl t u h1,h2⟩
 refine ⟨loc',⟨hr.defers,hr.size,fun t _=>?_,⟨fun t o ht=>?_,fun t ht=>?_,fun t t' u u' b h1 h2=>hr.hp.apart t t' u u' b (hl _ _ h1) (hl _ _ h2),hr.hp.inL,fun t u b h1=>hr.hp.notL t u b (hl _ _ h1)⟩⟩,⟨Kp.refl _ _,fun b hb => .inl (hb.imp id fun ⟨t,u,h1,h2⟩=>⟨t,u,hl t u h1,h2⟩)⟩⟩
 ·unfold ASt.get
  cases ht:fr'.lookup t with
  | none=>exact .zA _
  | some x =>
   have hm:=qc ht
   have h1:=hfr _ hm _ _ _ _ _ (hr.fr t trivial)
   exact (h1.low (List.all_eq_true.1 hok _ hm)).mono (Nat.le_refl _) (Kp.refl _ _) (fun k _ h=>hD k h) (fun t u _ h=>hl t u h)
 ·obtain ⟨_,u,h3,h4⟩:=hr.hp.at' t o (he t o ht)
  obtain ⟨h5,h6⟩:=hhp t o ht
  refine ⟨h5,u,by simp [loc',ht,h3],(h4.low h6).mono (Nat.le_refl _) (Kp.refl _ _) (fun k _ h=>hD k h) (fun t u _ h=>hl t u h) (fun _ _=>rfl)⟩
 ·simp [loc',ht]
theorem z8k (a b:Int):zx Tryz.prog 60 [.int a,.int b] (.bool (aftB a b)):=by
 cases h7:(a==7) with
 | true =>
  cases h6:(b==6) with
  | true =>
   refine zx.of Tryz.func60 rfl 30 rfl (by decide) (by simp [AV.okB]) ?_
   repeat' (first|refine T.zh fun K hK=>?_|apply T.block|(refine T.reg (by kernel_rfl) fun K' hK'=>?_;simp only [bz];(with_reducible repeat' (first|(apply WL.fin;apply hK';clear hK' K')|(refine WL.step fun K2 hK2=>?_;simp only [simprocAttr,az,h7,h6];repeat' (first|(apply hK2;clear hK2 K2)|apply And.intro|intro hb)))))|apply T.skip|apply T.exit|refine T.zg rfl ?_|refine T.zf rfl ?_|refine T.cond rfl (fun hc=>?_) (fun hc=>?_)|apply T.ret|simp only [zb,za,reduceIte,Nat.reduceEqDiff]|((repeat ((fail_if_success apply hK);clear hK K));apply hK;clear hK K))
   all_goals (refine zH.ret (.inr rfl) Tryz.results60 ?_;simp only [zw,zt,zq,simprocAttr,az,];simp [aftB,h7,h6])
  | false =>
   refine zx.of Tryz.func60 rfl 30 rfl (by decide) (by simp [AV.okB]) ?_
   repeat' (first|refine T.zh fun K hK=>?_|apply T.block|(refine T.reg (by kernel_rfl) fun K' hK'=>?_;simp only [bz];(with_reducible repeat' (first|(apply WL.fin;apply hK';clear hK' K')|(refine WL.step fun K2 hK2=>?_;simp only [simprocAttr,az,h7,h6];repeat' (first|(apply hK2;clear hK2 K2)|apply And.intro|intro hb)))))|apply T.skip|apply T.exit|refine T.zg rfl ?_|refine T.zf rfl ?_|refine T.cond rfl (fun hc=>?_) (fun hc=>?_)|apply T.ret|simp only [zb,za,reduceIte,Nat.reduceEqDiff]|((repeat ((fail_if_success apply hK);clear hK K));apply hK;clear hK K))
   all_goals (refine zH.ret (.inr rfl) Tryz.results60 ?_;simp only [zw,zt,zq,simprocAttr,az,];simp [aftB,h7,h6])
 | false =>
  refine zx.of Tryz.func60 rfl 30 rfl (by decide) (by simp [AV.okB]) ?_
  repeat' (first|refine T.zh fun K hK=>?_|apply T.block|(refine T.reg (by kernel_rfl) fun K' hK'=>?_;simp only [bz];(with_reducible repeat' (first|(apply WL.fin;apply hK';clear hK' K')|(refine WL.step fun K2 hK2=>?_;simp only [simprocAttr,az,h7];repeat' (first|(apply hK2;clear hK2 K2)|apply And.intro|intro hb)))))|apply T.skip|apply T.exit|refine T.zg rfl ?_|refine T.zf rfl ?_|refine T.cond rfl (fun hc=>?_) (fun hc=>?_)|apply T.ret|simp only [zb,za,reduceIte,Nat.reduceEqDiff]|((repeat ((fail_if_success apply hK);clear hK K));apply hK;clear hK K))
  all_goals (refine zH.ret (.inr rfl) Tryz.results60 ?_;simp only [zw,zt,zq,simprocAttr,az,])
  all_goals (simp [aftB,h7, *])
set_option linter.unusedSectionVars false
def nI (i:Nat):Value := .int .i64 (i:Int)
def rowI (r:List Nat):List (List PV):=r.map fun (i:Nat) => [PV.val (.int .i64 ((i:Nat):Int))]
noncomputable def atM (B:Nat) (m:Int→Int→Option Nat):Lit→Option AV:=plA fun o f=>(m o f).map fun i=>AV.own (i+B)
structure It where
 j:Nat
 m:Int→Int→Option Nat
 R:List (List Nat)
 a:Nat
 b:Nat
 c:Nat
 d:Nat
noncomputable def hpI (B:Nat) (l:List Ev) (s:It) (tl:Hp):Hp:=(5000000,.map none Tryz.prog 3 s.a (inM nI fun g=>qA l (fun d=>d.g==g) s.j)) :: (5000001,.map none Tryz.prog 3 s.b (inM nI fun g=>qA l (qV g) s.j)) :: (5000002,.amap Tryz.prog 94 s.c (atM B s.m) none) :: (5000003,.map none Tryz.prog 94 s.d (plM nI fun o f=>qA l (wrAt o f) s.j)) :: (mat 3 1 B (s.R.map rowI)++tl)
structure ItOk (l:List Ev) (s:It):Prop where
 j:s.j≤l.length
 R:s.R.length≤s.j
 row : ∀ o f i,s.m o f=some i→s.R[i]? = some (atL l o f s.j)
 none : ∀ o f,s.m o f=none→atL l o f s.j = []
 inj : ∀ o f o' f' i,s.m o f=some i→s.m o' f' = some i→o=o' ∧ f=f'
 a:s.a≤s.j
 b:s.b≤s.j
 c:s.c≤2*s.j
 d:s.d≤s.j
theorem AV.z0d {n m:Nat} (h:n≤m) : ∀ x:AV,x.okB n=true→x.okB m=true
 | .own k,hx=>by simp only [AV.okB,decide_eq_true_eq] at hx ⊢;omega
 | .pre k _,hx=>by simp only [AV.okB,decide_eq_true_eq] at hx ⊢;omega
 | .suf k _ _,hx=>by simp only [AV.okB,decide_eq_true_eq] at hx ⊢;omega
 | .ptr k _,hx=>by simp only [AV.okB,decide_eq_true_eq] at hx ⊢;omega
 | .rptr k _ _ _,hx=>by simp only [AV.okB,decide_eq_true_eq] at hx ⊢;omega
 | .fn f cs,hx=>by
  rw [AV.z1b,List.all_eq_true] at hx ⊢
  exact fun c hc=>AV.z0d h c (hx c hc)
 | .agg cs,hx=>by
  rw [AV.z0b,List.all_eq_true] at hx ⊢
  exact fun c hc=>AV.z0d h c (hx c hc)
 | .tup cs,hx=>by
  rw [AV.z4P,List.all_eq_true] at hx ⊢
  exact fun c hc=>AV.z0d h c (hx c hc)
 | .p x,_=>by simp only [AV.okB]
 | .elt r k,_=>by simp only [AV.okB]
 | .cap0,_=>by simp only [AV.okB]
 | .zA,_=>by simp only [AV.okB]
termination_by x=>SizeOf.sizeOf x
decreasing_by all_goals (have:=List.sizeOf_lt_of_mem hc;simp;omega)
theorem AO.z0d {n m:Nat} {o:AO} (ho:o.okB n=true) (h:n≤m):o.okB m=true:=by
 cases o with
 | boxP pin ty cs=>rw [AO.z1I,List.all_eq_true] at ho ⊢;exact fun c hc=>AV.z0d h c (ho c hc)
 | row e m rows=>rfl
 | map pin P k m f=>rfl
 | raw u ob=>rfl
 | lrec l sp fr=>rw [AO.z3s,List.all_eq_true] at ho ⊢;exact fun c hc=>AV.z0d h c.2 (ho c hc)
 | amap P k m f q =>
  simp only [AO.okB,decide_eq_true_eq] at ho ⊢
  exact fun l x hx=>AV.z0d h x (ho l x hx)
 | arow e cs=>rw [AO.z4I,List.all_eq_true] at ho ⊢;exact fun c hc=>AV.z0d h c (ho c hc)
section
variable {B:Nat} (hB:B=2000010) {R:List (List (List PV))} (hR:R.length≤1000000) {tl:Hp} (ht:HpOk 2000000 tl)
include ht
theorem tl_row {i:Nat} {r:List (List PV)} (h:R[i]? = some r):List.lookup (i+B) (mat 3 1 B R++tl)=some (.row 3 1 r):=by
 rw [qg,z8F,h];rfl
include hB hR in
theorem z03 {t:Nat} (o:AO) (h : 5000000≤t):List.map (fun p=>if p.1=t then (t,o) else p) (mat 3 1 B R++tl)=mat 3 1 B R++tl:=by
 rw [List.map_append,ht.set o (by omega)]
 congr 1
 exact qh fun p hp=>by rw [if_neg];have:=(z2f _ _ _ _ p hp).2.1;omega
include hB in
theorem tl_setI (i:Nat) (r:List (List PV)):List.map (fun p=>if p.1=i+B then (i+B,.row 3 1 r) else p) (mat 3 1 B R++tl)=mat 3 1 B (R.set i r)++tl:=by
 rw [List.map_append,ht.set _ (by omega),mat_setU]
theorem tl_sub {t:Nat} (y:AV) (h : 2000000≤t):List.map (fun p=>(p.1,AO.sub t y p.2)) (mat 3 1 B R++tl)=mat 3 1 B R++tl:=by
 rw [List.map_append,ht.sub y h,z6n]
theorem tl_ren {t t' : Nat} (h : 2000000≤t) (h' : 2000000≤t'):List.map (fun p=>(p.1,AO.ren t t' p.2)) (mat 3 1 B R++tl)=mat 3 1 B R++tl:=by
 rw [List.map_append,ht.ren h h',mat_ren]
include hB hR
theorem zL {t:Nat} (h : 5000000≤t):List.lookup t (mat 3 1 B R++tl)=none:=by
 rw [qg,z5Y _ _ _ _ _ (by omega),ht.none (by omega)];rfl
theorem tl_ne2 {t:Nat} (h : 5000000≤t):List.filter (fun p=>p.1 != t&&p.1 != R.length+B) (mat 3 1 B R++tl)=mat 3 1 B R++tl:=by
 rw [List.filter_append,ht.ne2 (by omega) (by omega),mat_ne2 _ _ _ _ _ _ (.inr (by omega)) (.inr (by omega))]
theorem tl_ok {t:Nat} {o:AO} (h:List.lookup t (mat 3 1 B R++tl)=some o):t<5000000∧o.okB 5000000=true:=by
 rw [qg] at h
 cases hm:(mat 3 1 B R).lookup t with
 | some o' =>
  rw [hm] at h
  cases h
  obtain ⟨h1,h2,r,_,h3⟩:=z2f _ _ _ _ _ (qc hm)
  simp only at h1 h2 h3
  rw [h3]
  exact ⟨by omega,rfl⟩
 | none =>
  rw [hm] at h
  obtain ⟨h1,h2⟩:=ht.at' h
  exact ⟨by omega,AO.z0d h2 (by omega)⟩
end
theorem atM_ok {B:Nat} (hB:B=2000010) {l:List Ev} (hl:l.length≤1000000) {s:It} (hs:ItOk l s) (kl:Lit) (x:AV) (h:atM B s.m kl=some x):x.okB 5000004=true:=by
 unfold atM plA at h
 obtain ⟨q,h1,h2⟩:=Option.bind_eq_some_iff.1 h
 obtain ⟨i,h3,rfl⟩:=Option.map_eq_some_iff.1 h2
 have h4:=(List.getElem?_eq_some_iff.1 (hs.row _ _ _ h3)).1
 have h5:=hs.R
 have h6:=hs.j
 simp only [AV.okB,decide_eq_true_eq]
 omega
theorem z0K {B:Nat} (hB:B=2000010) {l:List Ev} (hl:l.length≤1000000) {s:It} (hs:ItOk l s) {tl:Hp} (ht:HpOk 2000000 tl) (t:Nat) (o:AO) (h:(hpI B l s tl).lookup t=some o):t<5000004∧o.okB 5000004=true:=by
 have hR:(s.R.map rowI).length≤1000000:=by have:=hs.R;have:=hs.j;simp;omega
 unfold hpI at h
 simp only [zy] at h
 split at h
 ·cases h;exact ⟨by omega,rfl⟩
 split at h
 ·cases h;exact ⟨by omega,rfl⟩
 split at h
 ·cases h;exact ⟨by omega,AO.okB_amap _ _ _ _ _ _ (atM_ok hB hl hs)⟩
 split at h
 ·cases h;exact ⟨by omega,rfl⟩
 obtain ⟨h1,h2⟩:=tl_ok hB hR ht h
 exact ⟨by omega,AO.z0d h2 (by omega)⟩
noncomputable def ownI (B:Nat) (l:List Ev) (e:Ev) (s:It):Hp:=(5000005,.boxP none 94 [.p (.val (.int .i64 e.obj)),.p (.val (.int .i64 e.off))]) :: (5000004,.boxP none 30 [.p (.val (.int .i64 e.g)),.p (.val (.int .i64 e.kind)),.p (.val (.int .i64 e.obj)),.p (.val (.int .i64 e.off)),.p (.val (.int .i64 e.k)),.p (.val (.int .i64 e.n)),.p (.val (.int .i64 e.fn)),.p (.val (.int .i64 e.pc)),.p (.val (.int .i64 e.st))]) ::
 (5000000,.map none Tryz.prog 3 s.a (inM nI fun g=>qA l (fun d=>d.g==g) s.j)) :: (5000001,.map none Tryz.prog 3 s.b (inM nI fun g=>qA l (qV g) s.j)) :: (5000002,.amap Tryz.prog 94 s.c (atM B s.m) none) :: (5000003,.map none Tryz.prog 94 s.d (plM nI fun o f=>qA l (wrAt o f) s.j)) :: mat 3 1 B (s.R.map rowI)
def frI (l:List Ev) (y j:Nat):List (Nat × AV) := [(0,.own y),(1,.elt [.seq 9 (l.map evC)] 0),(3,.own 5000000),(4,.own 5000001),(5,.own 5000002),(6,.own 5000003),(7,.int j),(8,.ptr 5000004 0),(9,.ptr 5000005 0),(25,.p (.seq 9 (l.map evC))),(26,.int l.length),(27,.int j)]
theorem z0H {B:Nat} (hB:B=2000010) (l:List Ev) (e:Ev) (s:It) : ∀ p ∈ ownI B l e s,2000000≤p.1:=by
 intro p hp
 simp only [ownI,List.mem_cons] at hp
 rcases hp with rfl|rfl|rfl|rfl|rfl|rfl|hp
 all_goals first|(simp only [];omega)|(have:=(z2f _ _ _ _ p hp).1;omega)
theorem z5R {t:Nat} {o:AO} {A:Hp} (h : 2000000≤t) (hA : ∀ p ∈ A,2000000≤p.1) : ∀ p ∈ ((t,o) :: A:Hp),2000000≤p.1:=fun p hp=>by
 rcases List.mem_cons.1 hp with rfl|h1
 ·exact h
 ·exact hA p h1
theorem z1m {B:Nat} (hB:B=2000010) (l:List Ev) (e:Ev) (s:It) (y:Nat):(ownI B l e s).map (fun p=>(p.1,p.2.keep 2000000 [y]))=ownI B l e s:=by
 have hm:(AO.amap Tryz.prog 94 s.c (atM B s.m) none).keep 2000000 [y] = .amap Tryz.prog 94 s.c (atM B s.m) none:=by
  simp only [AO.keep]
  congr 1
  unfold atM
  rw [plA_map]
  congr 1
  funext o f
  rw [Option.map_map]
  congr 1
  funext i
  simp only [Function.comp,AV.z0E]
  rw [if_pos (.inl (by omega))]
 unfold ownI
 simp only [List.map_cons,hm,mat_keep,AO.z1A,AO.keep_map,AV.z0F,List.map_nil]
theorem qL {B:Nat} (hB:B=2000010) {l:List Ev} (hl:l.length≤1000000) {e:Ev} {s:It} (hs:ItOk l s) {tl:Hp} (ht:HpOk 2000000 tl) (t:Nat) (o:AO) (h:List.lookup t (ownI B l e s++tl)=some o):t<5000006∧o.okB 5000006=true:=by
 have h' : List.lookup t ((5000005,AO.boxP none 94 [.p (.val (.int .i64 e.obj)),.p (.val (.int .i64 e.off))]) :: (5000004,.boxP none 30 [.p (.val (.int .i64 e.g)),.p (.val (.int .i64 e.kind)),.p (.val (.int .i64 e.obj)),.p (.val (.int .i64 e.off)),.p (.val (.int .i64 e.k)),.p (.val (.int .i64 e.n)),.p (.val (.int .i64 e.fn)),.p (.val (.int .i64 e.pc)),.p (.val (.int .i64 e.st))]) :: hpI B l s tl)=some o:=h
 rw [zy] at h'
 split at h'
 ·cases h';exact ⟨by omega,by simp [AO.z1I,AV.okB]⟩
 rw [zy] at h'
 split at h'
 ·cases h';exact ⟨by omega,by simp [AO.z1I,AV.okB]⟩
 obtain ⟨h1,h2⟩:=z0K hB hl hs ht t o h'
 exact ⟨by omega,AO.z0d h2 (by omega)⟩
theorem z3X {B:Nat} (hB:B=2000010) {l:List Ev} (hl:l.length≤1000000) {e f:Ev} {s:It} (hs:ItOk l s) {tl:Hp} (ht:HpOk 2000000 tl) (t:Nat) (o:AO) (h:List.lookup t ((5000006,AO.boxP none 30 [.p (.val (.int .i64 f.g)),.p (.val (.int .i64 f.kind)),.p (.val (.int .i64 f.obj)),.p (.val (.int .i64 f.off)),.p (.val (.int .i64 f.k)),.p (.val (.int .i64 f.n)),.p (.val (.int .i64 f.fn)),.p (.val (.int .i64 f.pc)),.p (.val (.int .i64 f.st))]) :: (ownI B l e s++tl))=some o):t<5000007∧o.okB 5000007=true:=by
 rw [zy] at h
 split at h
 ·cases h;exact ⟨by omega,by simp [AO.z1I,AV.okB]⟩
 obtain ⟨h1,h2⟩:=qL hB hl hs ht t o h
 exact ⟨by omega,AO.z0d h2 (by omega)⟩
theorem z04 (r:List Nat):(rowI r).length=r.length:=by simp [rowI]
theorem z3p {r:List Nat} {q i:Nat} (h:r[q]? = some i):(rowI r)[q]? = some [PV.val (.int .i64 (i:Int))]:=by
 unfold rowI;rw [List.getElem?_map,h];rfl
theorem z6B {R:List (List Nat)} {i:Nat} {r:List Nat} (h:R[i]? = some r):(R.map rowI)[i]? = some (rowI r):=by
 rw [List.getElem?_map,h];rfl
theorem z5U (l:List Ev) (e:Ev) (j:Nat) {r:List Nat} {q i:Nat} {f:Ev} (h:r[q]? = some i) (hf:l[i]? = some f):z0I l e j (r.take (q+1))=z0I l e j (r.take q)++if z2q f e then [⟨i,j,e.kind⟩] else []:=by
 rw [List.take_add_one,h]
 unfold z0I
 rw [List.filter_append,List.map_append]
 congr 1
 simp only [Option.toList_some,List.filter_cons,List.filter_nil,hf,Option.any_some]
 split <;> rfl
theorem z8h (l:List Ev) (e:Ev) (j:Nat) (r:List Nat) (q:Nat):z0I l e j r=z0I l e j (r.take q)++z0I l e j (r.drop q):=by
 unfold z0I
 rw [← List.map_append,← List.filter_append,List.take_append_drop]
theorem z3g {A H:Hp} (hA : ∀ p ∈ A,2000000≤p.1) (hH:HpOk 2000000 H) (t:Nat):List.lookup t (A++H)=List.lookup t (H++A):=by
 rw [qg,qg]
 by_cases h:t<2000000
 ·have:A.lookup t=none:=by
   cases hl:A.lookup t with
   | none=>rfl
   | some o=>have:=hA _ (qc hl);simp only at this;omega
  rw [this];simp
 ·rw [hH.none (by omega)];simp
theorem z8e {H:List Ed→Hp} {y:Nat} {hv:Value} (hh : ∀ acc,∃ o,(H acc).lookup y=some o∧o.handle=some hv) (a b:List Ed):Kept (H a) (H b) y:=by
 obtain ⟨o,h1,h2⟩:=hh a
 obtain ⟨o',h3,h4⟩:=hh b
 unfold Kept
 rw [h1,h3]
 exact ⟨by rw [h2];rfl,by rw [h2,h4]⟩
theorem z7y {l:List Ev} : ∀ (n j:Nat),j≤n → ∃ r,z00 l n=z00 l j++r
 | 0,j,h=>⟨[],by rw [show j=0 by omega];rfl⟩
 | n+1,j,h=>by
  by_cases e:j=n+1
  ·exact ⟨[],by rw [e,List.append_nil]⟩
  ·obtain ⟨r,hr⟩:=z7y n j (by omega)
   exact ⟨r++_,by rw [z00,hr,List.append_assoc]⟩
theorem z1y {l:List Ev} {j:Nat} {e:Ev} (hx:l[j]? = some e):updF (inM nI fun g=>qA l (fun d=>d.g==g) j) (.int .i64 e.g) (some (.int .i64 (j:Int)))=inM nI fun g=>qA l (fun d=>d.g==g) (j+1):=by
 rw [show Value.int .i64 (j:Int)=nI j from rfl,z8l]
 congr 1
 funext g
 rw [z1N hx]
 by_cases h:g=e.g
 ·subst h;simp
 ·rw [if_neg h,if_neg (by simpa using fun h'=>h h'.symm)]
theorem za8 {l:List Ev} {j:Nat} {e:Ev} (hx:l[j]? = some e) (hk:(e.kind==14)=true):updF (inM nI fun g=>qA l (qV g) j) (.int .i64 e.k) (some (.int .i64 (j:Int)))=inM nI fun g=>qA l (qV g) (j+1):=by
 rw [show Value.int .i64 (j:Int)=nI j from rfl,z8l]
 congr 1
 funext g
 rw [z1N hx,qV,hk,Bool.true_and]
 by_cases h:g=e.k
 ·subst h;simp
 ·rw [if_neg h,if_neg (by simpa using fun h'=>h h'.symm)]
theorem z0v {l:List Ev} {j:Nat} {e:Ev} (hx:l[j]? = some e) (hk:(e.kind==14)=false):(fun g=>qA l (qV g) (j+1))=fun g=>qA l (qV g) j:=by
 funext g
 rw [z1N hx,qV,hk];rfl
theorem wr_upd {l:List Ev} {j:Nat} {e:Ev} (hx:l[j]? = some e) (hk:wrAt e.obj e.off e=true) (iO:inI e.obj) (iF:inI e.off):updF (plM nI fun o f=>qA l (wrAt o f) j) (kyl e.obj e.off) (some (.int .i64 (j:Int)))=plM nI fun o f=>qA l (wrAt o f) (j+1):=by
 rw [show Value.int .i64 (j:Int)=nI j from rfl,z81 _ _ iO iF]
 congr 1
 funext o f
 rw [z1N hx]
 by_cases h:o=e.obj∧f=e.off
 ·obtain ⟨rfl,rfl⟩:=h
  rw [if_pos ⟨rfl,rfl⟩,if_pos hk]
 ·rw [if_neg h,if_neg]
  intro hw
  simp only [wrAt,Bool.and_eq_true,beq_iff_eq] at hw
  exact h ⟨hw.1.2.symm,hw.2.symm⟩
theorem z4n {l:List Ev} {j:Nat} {e:Ev} (hx:l[j]? = some e) (h4:(e.kind==4)=false) (h5:(e.kind==5)=false):(fun o f=>qA l (wrAt o f) (j+1))=fun o f=>qA l (wrAt o f) j:=by
 funext o f
 rw [z1N hx,wrAt,h4,h5];rfl
theorem z3Y {l:List Ev} {s:It} (hs:ItOk l s) {e:Ev} (hx:l[s.j]? = some e) (hp:pubK e.kind=false) (a b c d:Nat) (ha:a≤s.j+1) (hb:b≤s.j+1) (hc:c≤2*(s.j+1)) (hd:d≤s.j+1):ItOk l ⟨s.j+1,s.m,s.R,a,b,c,d⟩:=by
 have hat : ∀ o f,atL l o f (s.j+1)=atL l o f s.j:=fun o f=>by rw [z2i hx,z3t,hp];simp
 have h1:=(List.getElem?_eq_some_iff.1 hx).1
 exact ⟨h1,by have:=hs.R;simp only;omega,fun o f i h=>by rw [hat];exact hs.row o f i h,fun o f h=>by rw [hat];exact hs.none o f h,hs.inj,ha,hb,hc,hd⟩
theorem z1X {e:Ev} (hp:pubK e.kind=true) (o f:Int):z3t o f e=true↔o=e.obj∧f=e.off:=by
 simp only [z3t,hp,Bool.true_and,Bool.and_eq_true,beq_iff_eq]
 constructor
 ·rintro ⟨h1,h2⟩;exact ⟨h1.symm,h2.symm⟩
 ·rintro ⟨h1,h2⟩;exact ⟨h1.symm,h2.symm⟩
theorem it_old {l:List Ev} {s:It} (hs:ItOk l s) {e:Ev} (hx:l[s.j]? = some e) (hp:pubK e.kind=true) {i:Nat} (hM:s.m e.obj e.off=some i) (a b c d:Nat) (ha:a≤s.j+1) (hb:b≤s.j+1) (hc:c≤2*(s.j+1)) (hd:d≤s.j+1):ItOk l ⟨s.j+1,s.m,s.R.set i (atL l e.obj e.off s.j ++ [s.j]),a,b,c,d⟩:=by
 have h1:=(List.getElem?_eq_some_iff.1 hx).1
 have hil:=(List.getElem?_eq_some_iff.1 (hs.row _ _ _ hM)).1
 refine ⟨h1,by have:=hs.R;simp only [List.length_set];omega,fun o f i' h=>?_,fun o f h=>?_,hs.inj,ha,hb,hc,hd⟩
 ·simp only [List.getElem?_set]
  by_cases hof:o=e.obj∧f=e.off
  ·obtain ⟨rfl,rfl⟩:=hof
   rw [hM] at h
   cases h
   rw [if_pos rfl,if_pos hil,z2i hx,if_pos ((z1X hp _ _).2 ⟨rfl,rfl⟩)]
  ·have hne : ¬ i=i':=fun h'=>by subst h';exact hof (hs.inj _ _ _ _ _ h hM)
   rw [if_neg hne,z2i hx,if_neg (fun h'=>hof ((z1X hp _ _).1 h')),List.append_nil]
   exact hs.row o f i' h
 ·have hof : ¬ (o=e.obj∧f=e.off):=fun h'=>by rw [h'.1,h'.2,hM] at h;cases h
  rw [z2i hx,if_neg (fun h'=>hof ((z1X hp _ _).1 h')),List.append_nil]
  exact hs.none o f h
def updN (m:Int→Int→Option Nat) (o f:Int) (i:Nat):Int→Int→Option Nat:=fun x y=>if x=o∧y=f then some i else m x y
theorem it_new {l:List Ev} {s:It} (hs:ItOk l s) {e:Ev} (hx:l[s.j]? = some e) (hp:pubK e.kind=true) (hM:s.m e.obj e.off=none) (a b c d:Nat) (ha:a≤s.j+1) (hb:b≤s.j+1) (hc:c≤2*(s.j+1)) (hd:d≤s.j+1):ItOk l ⟨s.j+1,updN s.m e.obj e.off s.R.length,s.R ++ [[s.j]],a,b,c,d⟩:=by
 have h1:=(List.getElem?_eq_some_iff.1 hx).1
 have hlt : ∀ o f i,s.m o f=some i→i<s.R.length:=fun o f i h=>(List.getElem?_eq_some_iff.1 (hs.row o f i h)).1
 refine ⟨h1,by have:=hs.R;simp;omega,fun o f i' h=>?_,fun o f h=>?_,fun o f o' f' i h h'=>?_,ha,hb,hc,hd⟩
 ·simp only [updN] at h
  split at h
  ·rename_i hof
   obtain ⟨rfl,rfl⟩:=hof
   cases h
   rw [List.getElem?_append_right (Nat.le_refl _),Nat.sub_self,z2i hx,if_pos ((z1X hp _ _).2 ⟨rfl,rfl⟩),hs.none _ _ hM];rfl
  ·rename_i hof
   rw [List.getElem?_append_left (hlt o f i' h),z2i hx,if_neg (fun h'=>hof ((z1X hp _ _).1 h')),List.append_nil]
   exact hs.row o f i' h
 ·simp only [updN] at h
  split at h
  ·cases h
  ·rename_i hof
   rw [z2i hx,if_neg (fun h'=>hof ((z1X hp _ _).1 h')),List.append_nil]
   exact hs.none o f h
 ·simp only [updN] at h h'
  split at h
  ·rename_i hof
   cases h
   split at h'
   ·rename_i hof'
    exact ⟨hof.1.trans hof'.1.symm,hof.2.trans hof'.2.symm⟩
   ·have:=hlt _ _ _ h';omega
  ·split at h'
   ·cases h'
    have:=hlt _ _ _ h;omega
   ·exact hs.inj _ _ _ _ _ h h'
theorem atM_old {B:Nat} {l:List Ev} {s:It} (hs:ItOk l s) {o f:Int} {i:Nat} (hM:s.m o f=some i) (iO:inI o) (iF:inI f) :
  updA (fun k=>(updA (atM B s.m) (kyl o f) (some (.own (i+B))) k).map (AV.sub (i+B) .zA)) (kyl o f) (some (.own (i+B)))=atM B s.m:=by
 funext k
 unfold updA
 by_cases hk:k=kyl o f
 ·subst hk
  rw [if_pos rfl,atM,z5M _ iO iF,hM];rfl
 ·simp only [if_neg hk]
  unfold atM plA
  cases hu:unk k with
  | none=>rfl
  | some q =>
   have hq:=z6u hu
   have hne : ¬(q.1=o∧q.2=f):=fun ⟨h1,h2⟩=>hk (by rw [hq,h1,h2])
   simp only [Option.bind_some]
   cases hm:s.m q.1 q.2 with
   | none=>rfl
   | some i' =>
    have : ¬ i' = i:=fun h'=>by subst h';exact hne (hs.inj _ _ _ _ _ hm hM)
    simp only [Option.map_some,AV.sub]
    rw [if_neg (by omega)]
theorem atM_new {B:Nat} (hB:B=2000010) {l:List Ev} (hl:l.length≤1000000) {s:It} (hs:ItOk l s) {o f:Int} (x:AV) (iO:inI o) (iF:inI f) :
  (fun k=>(updA (updA (atM B s.m) (kyl o f) (some x)) (kyl o f) (some (.own 5000006)) k).map (AV.ren 5000006 (s.R.length+B)))=atM B (updN s.m o f s.R.length):=by
 funext k
 unfold updA
 by_cases hk:k=kyl o f
 ·subst hk
  rw [if_pos rfl,atM,z5M _ iO iF,updN,if_pos ⟨rfl,rfl⟩,Option.map_some,AV.ql,if_pos rfl];rfl
 ·rw [if_neg hk,if_neg hk]
  unfold atM plA
  cases hu:unk k with
  | none=>rfl
  | some q =>
   have hq:=z6u hu
   have hne : ¬(q.1=o∧q.2=f):=fun ⟨h1,h2⟩=>hk (by rw [hq,h1,h2])
   simp only [Option.bind_some,updN]
   rw [if_neg hne]
   cases hm:s.m q.1 q.2 with
   | none=>rfl
   | some i' =>
    have h1:=(List.getElem?_eq_some_iff.1 (hs.row _ _ _ hm)).1
    have h2:=hs.R
    have h3:=hs.j
    rw [Option.map_some,Option.map_some,AV.ql,if_neg (by omega),if_neg (by omega)]
theorem AO.ren_amap (t t' : Nat) (P:Program) (k n:Nat) (f:Lit→Option AV) (q:Option (Nat × Lit)):AO.ren t t' (.amap P k n f q) = .amap P k n (fun l=>(f l).map (AV.ren t t')) q:=rfl
theorem z1k (r:List Nat) (j:Nat):rowI r ++ [[PV.val (.int .i64 (j:Int))]]=rowI (r ++ [j]):=by simp [rowI]
theorem rowsI_set (R:List (List Nat)) (i:Nat) (r:List Nat):List.set (List.map rowI R) i (rowI r)=List.map rowI (R.set i r):=by rw [List.map_set]
theorem new_lk {B:Nat} (hB:B=2000010) {pre:Hp} (hp : ∀ p ∈ pre,5000000≤p.1) {R:List (List (List PV))} (hR:R.length≤1000000) (r:List (List PV)) (tl:Hp) (t:Nat) :
  List.lookup t (pre++(mat 3 1 B (R ++ [r])++tl))=List.lookup t ((R.length+B,.row 3 1 r) :: (pre++(mat 3 1 B R++tl))):=by
 by_cases h:t=R.length+B
 ·subst h
  have hn:pre.lookup (R.length+B)=none:=by
   cases hl:pre.lookup (R.length+B) with
   | none=>rfl
   | some o=>have:=hp _ (qc hl);simp only at this;omega
  rw [zi,qg,hn,qg,z8F,List.getElem?_append_right (Nat.le_refl _),Nat.sub_self];rfl
 ·rw [ze h,qg,qg,qg,qg,z6e,qg,ze (by omega),qP,Option.or_none]
theorem hpI_new {B:Nat} (hB:B=2000010) (o0 o1 o2 o3:AO) {R:List (List Nat)} (hR:R.length≤1000000) (j:Nat) (tl:Hp) (t:Nat) :
  List.lookup t ((5000000,o0) :: (5000001,o1) :: (5000002,o2) :: (5000003,o3) :: (mat 3 1 B ((R ++ [[j]]).map rowI)++tl))=List.lookup t ((R.length+B,.row 3 1 [[PV.val (.int .i64 (j:Int))]]) :: (5000000,o0) :: (5000001,o1) :: (5000002,o2) :: (5000003,o3) :: (mat 3 1 B (R.map rowI)++tl)):=by
 have h:=new_lk hB (pre := [(5000000,o0),(5000001,o1),(5000002,o2),(5000003,o3)]) (fun p hp=>by
  simp only [List.mem_cons,List.not_mem_nil,or_false] at hp
  rcases hp with rfl|rfl|rfl|rfl <;> simp only [] <;> omega) (R:=R.map rowI) (by rw [List.length_map];exact hR) (rowI [j]) tl t
 rw [List.length_map] at h
 rw [List.map_append]
 exact h
theorem skip2 {t k a b:Nat} {x y z:AO} {L:Hp} (ha:t ≠ a) (hb:t ≠ b):List.lookup t ((k,x) :: (a,y) :: (b,z) :: L)=List.lookup t ((k,x) :: L):=by
 simp only [zy,if_neg ha,if_neg hb]
theorem lk_end {B:Nat} (hB:B=2000010) {t:Nat} (ht:t<2000000) (o0 o1 o2 o3:AO) (R:List (List (List PV))) (tl:Hp):List.lookup t ((5000000,o0) :: (5000001,o1) :: (5000002,o2) :: (5000003,o3) :: (mat 3 1 B R++tl))=tl.lookup t:=by
 rw [ze (by omega),ze (by omega),ze (by omega),ze (by omega),qg,z7P _ _ _ _ _ (by omega)];rfl
end Go.Proofs.YtdlgoofjechocaaGreatDoor
