/- Texts Pl, Pn, Px, Py, Pz, Qa, Qb, Qd, Qe, Qh, Qn, Qy, Qr, Ua, Ub, Uc, Ud. -/
import Derived.Test.YtdlgoofjechocaaZ09
set_option maxHeartbeats 32000000
set_option maxRecDepth 100000
set_option linter.unusedSimpArgs false
set_option linter.unusedVariables false
namespace Go.Proofs.Ytdlgoofjechocaa
open Go.RowKit Go.Sort Go.Maps
theorem QS.no' {b:Nat} {s:Ps} {a1 a2 a3 x1 x2 x3:Nat} {o:Option Ps} (h:o=none) (h1:x1≤a1+2) (h2:x2≤a2+2) (h3:x3≤a3+2):QS b s a1 a2 a3 o (hpS b s x1 x2 x3) (.bool false):=by subst h;exact ⟨rfl,x1,x2,x3,h1,h2,h3,rfl⟩
theorem addS_ok (b:Nat) (s:Ps) (a1 a2 a3:Nat) (e:Ev) (h1:a1<900000) (h2:a2<900000) (h3:a3<900000):MemC Try.prog 76 4 (hpS b s a1 a2 a3) [.ptr 0 0,evA e] (QS b s a1 a2 a3 (addP s e)):=by
 have hpe:hpS b s a1 a2 a3 = [(0,.boxP (some b) 133 [.int s.ev,.int s.gor,.own 1,.own 2,.own 3,.p (.seq 1 (s.op.kinds.map fun x => [pI x])),.int s.op.obj,.int s.op.k,.int s.op.n,.int s.op.snd,.int s.op.rcv]),(1,.map none Try.prog 3 a1 (inM chV s.ch)),(2,.map none Try.prog 104 a2 (plM muV s.mu)),(3,.map none Try.prog 104 a3 (plM Value.bool (dnO s.dn)))]:=rfl
 by_cases hno:z4D s e=true
 ·have hn:addP s e=none:=by simp [addP,hno]
  rw [hpe]
  have hv:=z8t e
  simp only [evA,evC,List.map_cons,List.map_nil] at hv ⊢
  refine MemC.of Try.func76 rfl 54 rfl (by decide) ?_;simp only [z0t,frOf]
  repeat' (first|refine T.zh fun K hK=>?_|refine T.block ?_|(refine T.reg (by kernel_rfl) fun K' hK'=>?_;simp only [bz];(repeat' (first|(with_reducible refine WL.fin ?_;refine hK' _ ?_;clear hK' K')|((with_reducible refine WL.step fun K2 hK2=>?_);simp only [simprocAttr,implies_true,amz,tys];(repeat' with_reducible (first|(refine hK2 _ ?_;clear hK2 K2)|refine And.intro ?_ ?_|intro hb))))))|refine T.skip ?_|refine T.exit ?_|refine T.zf rfl ?_|refine T.ze rfl ?_|refine T.cond rfl (fun hc=>?_) (fun hc=>?_)|refine T.ret ?_|simp only [za,z8,reduceIte,Nat.reduceEqDiff]|((repeat ((fail_if_success (refine hK _ ?_));clear hK K));refine hK _ ?_;clear hK K))
  refine T.drw 23 (by kernel_rfl) (by kernel_rfl) fun K' hK'=>?_;simp only [List.map_cons,List.map_nil];(repeat' (first|(with_reducible refine WL.fin ?_;refine hK' _ ?_;clear hK' K')|(with_reducible refine WD.fin ?_)|((with_reducible first|refine WL.step fun K2 hK2=>?_|refine WD.step fun K2 hK2=>?_);simp only [simprocAttr,implies_true,amz,tys];(repeat' (first|with_reducible (first|(refine hK2 _ ?_;clear hK2 K2)|refine And.intro ?_ ?_|intro hb)|((first|(with_reducible apply zg)|(with_reducible apply zl));case h=>exact CallV.plain (Ent.of Try.func83 (by kernel_rfl) rfl) (hv) (by simp [AV.okB])))))));all_goals ((try simp only [za,z8,reduceIte,Nat.reduceEqDiff]);(try ((repeat ((fail_if_success (refine hK _ ?_));clear hK K));refine hK _ ?_;clear hK K)))
  all_goals (repeat' (first|refine T.zh fun K hK=>?_|refine T.block ?_|(refine T.reg (by kernel_rfl) fun K' hK'=>?_;simp only [bz];(repeat' (first|(with_reducible refine WL.fin ?_;refine hK' _ ?_;clear hK' K')|((with_reducible refine WL.step fun K2 hK2=>?_);simp only [simprocAttr,implies_true,amz,tys];(repeat' with_reducible (first|(refine hK2 _ ?_;clear hK2 K2)|refine And.intro ?_ ?_|intro hb))))))|refine T.skip ?_|refine T.exit ?_|refine T.zf rfl ?_|refine T.ze rfl ?_|refine T.cond rfl (fun hc=>?_) (fun hc=>?_)|refine T.ret ?_|simp only [za,z8,reduceIte,Nat.reduceEqDiff]|((repeat ((fail_if_success (refine hK _ ?_));clear hK K));refine hK _ ?_;clear hK K)))
  all_goals first
   | (exfalso;simp_all [z4D];done)
   | ((refine FinM.ret (s':=⟨[(4,.bool false)],hpS b s a1 a2 a3,54,4⟩) (r := .bool false) (.inr rfl) Try.results76 (by refine zk.of' rfl ?_;simp only [wks,reduceIte,Nat.reduceEqDiff,ASt.okB,AV.okB,Nat.reduceLT,implies_true,hpS,gpC,List.map_cons,List.map_nil]) rfl ?_ ?_;(focus (simp only [zu,zo,zn,simprocAttr,implies_true,amz,tys,];done)));exact QS.no hn)
   | fail
 ·have hno' : z4D s e=false:=by simpa using hno
  have hv0:z04 e=true∧decide (5000≤s.ev)=false∧decide (s.gor≤e.g)=false:=by
   simp only [z4D,Bool.or_eq_false_iff,Bool.not_eq_false'] at hno'
   exact ⟨hno'.1.1,hno'.1.2,hno'.2⟩
  obtain ⟨v1,v2,v3⟩:=hv0
  have he:=z8e v1
  have hv:=z8t e
  rw [v1] at hv
  have hop:=open_ok b s a1 a2 a3
  cases hkk:s.op.kinds with
  | cons kd r =>
   have hst:z0z s e=z2I s kd r e:=by simp [z0z,hkk]
   rw [show z8r s=true by simp [z8r,hkk]] at hop
   have hc:=zao b s a1 a2 a3 e kd r hkk he (by omega)
   rw [← hst] at hc
   cases ho:z0z s e with
   | none =>
    have hn:addP s e=none:=by simp [addP,hno',ho]
    rw [ho] at hc
    rw [hpe] at hop hc ⊢
    simp only [evA,evC,List.map_cons,List.map_nil] at hv hc ⊢
    refine MemC.of Try.func76 rfl 54 rfl (by decide) ?_;simp only [z0t,frOf]
    repeat' (first|refine T.zh fun K hK=>?_|refine T.block ?_|(refine T.reg (by kernel_rfl) fun K' hK'=>?_;simp only [bz];(repeat' (first|(with_reducible refine WL.fin ?_;refine hK' _ ?_;clear hK' K')|((with_reducible refine WL.step fun K2 hK2=>?_);simp only [simprocAttr,implies_true,amz,tys];(repeat' with_reducible (first|(refine hK2 _ ?_;clear hK2 K2)|refine And.intro ?_ ?_|intro hb))))))|refine T.skip ?_|refine T.exit ?_|refine T.zf rfl ?_|refine T.ze rfl ?_|refine T.cond rfl (fun hc=>?_) (fun hc=>?_)|refine T.ret ?_|simp only [za,z8,reduceIte,Nat.reduceEqDiff]|((repeat ((fail_if_success (refine hK _ ?_));clear hK K));refine hK _ ?_;clear hK K))
    refine T.drw 23 (by kernel_rfl) (by kernel_rfl) fun K' hK'=>?_;simp only [List.map_cons,List.map_nil];(repeat' (first|(with_reducible refine WL.fin ?_;refine hK' _ ?_;clear hK' K')|(with_reducible refine WD.fin ?_)|((with_reducible first|refine WL.step fun K2 hK2=>?_|refine WD.step fun K2 hK2=>?_);simp only [simprocAttr,implies_true,amz,tys,v2,v3];(repeat' (first|with_reducible (first|(refine hK2 _ ?_;clear hK2 K2)|refine And.intro ?_ ?_|intro hb)|((first|(with_reducible apply zg)|(with_reducible apply zl));case h=>exact CallV.plain (Ent.of Try.func83 (by kernel_rfl) rfl) (hv) (by simp [AV.okB])))))));all_goals ((try simp only [za,z8,reduceIte,Nat.reduceEqDiff]);(try ((repeat ((fail_if_success (refine hK _ ?_));clear hK K));refine hK _ ?_;clear hK K)))
    all_goals (repeat' (first|refine T.zh fun K hK=>?_|refine T.block ?_|(refine T.reg (by kernel_rfl) fun K' hK'=>?_;simp only [bz];(repeat' (first|(with_reducible refine WL.fin ?_;refine hK' _ ?_;clear hK' K')|((with_reducible refine WL.step fun K2 hK2=>?_);simp only [simprocAttr,implies_true,amz,tys];(repeat' (first|with_reducible (first|(refine hK2 _ ?_;clear hK2 K2)|refine And.intro ?_ ?_|intro hb)|((with_reducible refine qp 4 _ _ [0] (Ent.of Try.func77 (by kernel_rfl) rfl) (hop) ?_ ?_ ?_);(focus ((refine ⟨Nat.le_of_ble_eq_true rfl,?_,?_⟩ <;> simp only [List.mem_cons,List.not_mem_nil,or_false,forall_eq_or_imp,forall_eq,zx,qf,reduceIte,Nat.reduceEqDiff,AO.qg,AO.qI,AO.qG,AO.qH,AV.okB,AV.qa,AV.qo,AV.qy,List.all_cons,List.all_nil,Bool.and_true,Bool.and_self,Nat.reduceLT,decide_true,true_and,and_true,Option.isSome_some,true_implies,false_implies,implies_true,and_self,Nat.lt_irrefl,Option.some.injEq,]);done));(focus (simp [AV.okB];done));rintro hp' r ⟨rfl,rfl⟩;refine ⟨by simp [Kept,zx,AO.handle],?_⟩;simp only [ASt.qU,AV.zU,AV.zS,AV.zM,AV.zW,AV.ql,AV.zY,AV.zJ,AV.zL,AV.qh,AV.zZ,AV.zX,AO.keep,List.map_cons,List.map_nil,List.filter_cons,List.filter_nil,Nat.reduceLeDiff,decide_true,decide_false,reduceIte,Bool.false_eq_true,List.cons_append,List.nil_append,List.mem_cons,List.not_mem_nil,or_false,false_or,or_true,true_or,Nat.reduceEqDiff,zH,qm,Nat.le_refl,])|((with_reducible refine qp 4 _ _ [0] (Ent.of Try.func84 (by kernel_rfl) rfl) (hc) ?_ ?_ ?_);(focus ((refine ⟨Nat.le_of_ble_eq_true rfl,?_,?_⟩ <;> simp only [List.mem_cons,List.not_mem_nil,or_false,forall_eq_or_imp,forall_eq,zx,qf,reduceIte,Nat.reduceEqDiff,AO.qg,AO.qI,AO.qG,AO.qH,AV.okB,AV.qa,AV.qo,AV.qy,List.all_cons,List.all_nil,Bool.and_true,Bool.and_self,Nat.reduceLT,decide_true,true_and,and_true,Option.isSome_some,true_implies,false_implies,implies_true,and_self,Nat.lt_irrefl,Option.some.injEq,]);done));(focus (simp [AV.okB];done));rintro hp' r ⟨rfl,x1,x2,x3,l1,l2,l3,rfl⟩;refine ⟨by simp [Kept,hpS,zx,AO.handle],?_⟩;simp only [Option.getD_none,Option.getD_some,Option.isSome_none,Option.isSome_some,hpS,gpC];simp only [ASt.qU,AV.zU,AV.zS,AV.zM,AV.zW,AV.ql,AV.zY,AV.zJ,AV.zL,AV.qh,AV.zZ,AV.zX,AO.keep,List.map_cons,List.map_nil,List.filter_cons,List.filter_nil,Nat.reduceLeDiff,decide_true,decide_false,reduceIte,Bool.false_eq_true,List.cons_append,List.nil_append,List.mem_cons,List.not_mem_nil,or_false,false_or,or_true,true_or,Nat.reduceEqDiff,zH,qm,Nat.le_refl,])))))))|refine T.skip ?_|refine T.exit ?_|refine T.zf rfl ?_|refine T.ze rfl ?_|refine T.cond rfl (fun hc=>?_) (fun hc=>?_)|refine T.ret ?_|simp only [za,z8,reduceIte,Nat.reduceEqDiff]|((repeat ((fail_if_success (refine hK _ ?_));clear hK K));refine hK _ ?_;clear hK K)))
    all_goals first
     | ((refine FinM.ret (s':=⟨[(4,.bool false)],hpS b s x1 x2 x3,54,4⟩) (r := .bool false) (.inr rfl) Try.results76 (by refine zk.of' rfl ?_;simp only [wks,reduceIte,Nat.reduceEqDiff,ASt.okB,AV.okB,Nat.reduceLT,implies_true,hpS,gpC,List.map_cons,List.map_nil]) rfl ?_ ?_;(focus (simp only [zu,zo,zn,simprocAttr,implies_true,amz,tys,];done)));exact QS.no' hn l1 l2 l3;done)
     | fail
   | some t =>
    have hy:addP s e=some { t with ev:=wI (t.ev+1) }:=by simp [addP,hno',ho]
    rw [ho] at hc
    rw [hpe] at hop hc ⊢
    simp only [evA,evC,List.map_cons,List.map_nil] at hv hc ⊢
    refine MemC.of Try.func76 rfl 54 rfl (by decide) ?_;simp only [z0t,frOf]
    repeat' (first|refine T.zh fun K hK=>?_|refine T.block ?_|(refine T.reg (by kernel_rfl) fun K' hK'=>?_;simp only [bz];(repeat' (first|(with_reducible refine WL.fin ?_;refine hK' _ ?_;clear hK' K')|((with_reducible refine WL.step fun K2 hK2=>?_);simp only [simprocAttr,implies_true,amz,tys];(repeat' with_reducible (first|(refine hK2 _ ?_;clear hK2 K2)|refine And.intro ?_ ?_|intro hb))))))|refine T.skip ?_|refine T.exit ?_|refine T.zf rfl ?_|refine T.ze rfl ?_|refine T.cond rfl (fun hc=>?_) (fun hc=>?_)|refine T.ret ?_|simp only [za,z8,reduceIte,Nat.reduceEqDiff]|((repeat ((fail_if_success (refine hK _ ?_));clear hK K));refine hK _ ?_;clear hK K))
    refine T.drw 23 (by kernel_rfl) (by kernel_rfl) fun K' hK'=>?_;simp only [List.map_cons,List.map_nil];(repeat' (first|(with_reducible refine WL.fin ?_;refine hK' _ ?_;clear hK' K')|(with_reducible refine WD.fin ?_)|((with_reducible first|refine WL.step fun K2 hK2=>?_|refine WD.step fun K2 hK2=>?_);simp only [simprocAttr,implies_true,amz,tys,v2,v3];(repeat' (first|with_reducible (first|(refine hK2 _ ?_;clear hK2 K2)|refine And.intro ?_ ?_|intro hb)|((first|(with_reducible apply zg)|(with_reducible apply zl));case h=>exact CallV.plain (Ent.of Try.func83 (by kernel_rfl) rfl) (hv) (by simp [AV.okB])))))));all_goals ((try simp only [za,z8,reduceIte,Nat.reduceEqDiff]);(try ((repeat ((fail_if_success (refine hK _ ?_));clear hK K));refine hK _ ?_;clear hK K)))
    all_goals (repeat' (first|refine T.zh fun K hK=>?_|refine T.block ?_|(refine T.reg (by kernel_rfl) fun K' hK'=>?_;simp only [bz];(repeat' (first|(with_reducible refine WL.fin ?_;refine hK' _ ?_;clear hK' K')|((with_reducible refine WL.step fun K2 hK2=>?_);simp only [simprocAttr,implies_true,amz,tys];(repeat' (first|with_reducible (first|(refine hK2 _ ?_;clear hK2 K2)|refine And.intro ?_ ?_|intro hb)|((with_reducible refine qp 4 _ _ [0] (Ent.of Try.func77 (by kernel_rfl) rfl) (hop) ?_ ?_ ?_);(focus ((refine ⟨Nat.le_of_ble_eq_true rfl,?_,?_⟩ <;> simp only [List.mem_cons,List.not_mem_nil,or_false,forall_eq_or_imp,forall_eq,zx,qf,reduceIte,Nat.reduceEqDiff,AO.qg,AO.qI,AO.qG,AO.qH,AV.okB,AV.qa,AV.qo,AV.qy,List.all_cons,List.all_nil,Bool.and_true,Bool.and_self,Nat.reduceLT,decide_true,true_and,and_true,Option.isSome_some,true_implies,false_implies,implies_true,and_self,Nat.lt_irrefl,Option.some.injEq,]);done));(focus (simp [AV.okB];done));rintro hp' r ⟨rfl,rfl⟩;refine ⟨by simp [Kept,zx,AO.handle],?_⟩;simp only [ASt.qU,AV.zU,AV.zS,AV.zM,AV.zW,AV.ql,AV.zY,AV.zJ,AV.zL,AV.qh,AV.zZ,AV.zX,AO.keep,List.map_cons,List.map_nil,List.filter_cons,List.filter_nil,Nat.reduceLeDiff,decide_true,decide_false,reduceIte,Bool.false_eq_true,List.cons_append,List.nil_append,List.mem_cons,List.not_mem_nil,or_false,false_or,or_true,true_or,Nat.reduceEqDiff,zH,qm,Nat.le_refl,])|((with_reducible refine qp 4 _ _ [0] (Ent.of Try.func84 (by kernel_rfl) rfl) (hc) ?_ ?_ ?_);(focus ((refine ⟨Nat.le_of_ble_eq_true rfl,?_,?_⟩ <;> simp only [List.mem_cons,List.not_mem_nil,or_false,forall_eq_or_imp,forall_eq,zx,qf,reduceIte,Nat.reduceEqDiff,AO.qg,AO.qI,AO.qG,AO.qH,AV.okB,AV.qa,AV.qo,AV.qy,List.all_cons,List.all_nil,Bool.and_true,Bool.and_self,Nat.reduceLT,decide_true,true_and,and_true,Option.isSome_some,true_implies,false_implies,implies_true,and_self,Nat.lt_irrefl,Option.some.injEq,]);done));(focus (simp [AV.okB];done));rintro hp' r ⟨rfl,x1,x2,x3,l1,l2,l3,rfl⟩;refine ⟨by simp [Kept,hpS,zx,AO.handle],?_⟩;simp only [Option.getD_none,Option.getD_some,Option.isSome_none,Option.isSome_some,hpS,gpC];simp only [ASt.qU,AV.zU,AV.zS,AV.zM,AV.zW,AV.ql,AV.zY,AV.zJ,AV.zL,AV.qh,AV.zZ,AV.zX,AO.keep,List.map_cons,List.map_nil,List.filter_cons,List.filter_nil,Nat.reduceLeDiff,decide_true,decide_false,reduceIte,Bool.false_eq_true,List.cons_append,List.nil_append,List.mem_cons,List.not_mem_nil,or_false,false_or,or_true,true_or,Nat.reduceEqDiff,zH,qm,Nat.le_refl,])))))))|refine T.skip ?_|refine T.exit ?_|refine T.zf rfl ?_|refine T.ze rfl ?_|refine T.cond rfl (fun hc=>?_) (fun hc=>?_)|refine T.ret ?_|simp only [za,z8,reduceIte,Nat.reduceEqDiff]|((repeat ((fail_if_success (refine hK _ ?_));clear hK K));refine hK _ ?_;clear hK K)))
    all_goals first
     | ((refine FinM.ret (s':=⟨[(4,.bool true)],hpS b { t with ev:=wI (t.ev+1) } x1 x2 x3,54,4⟩) (r := .bool true) (.inr rfl) Try.results76 (by refine zk.of' rfl ?_;simp only [wks,reduceIte,Nat.reduceEqDiff,ASt.okB,AV.okB,Nat.reduceLT,implies_true,hpS,gpC,List.map_cons,List.map_nil]) rfl ?_ ?_;(focus (simp only [zu,zo,zn,simprocAttr,implies_true,amz,tys,];done)));exact QS.yes _ x1 x2 x3 hy l1 l2 l3;done)
     | fail
  | nil =>
   rw [show z8r s=false by simp [z8r,hkk]] at hop
   have hch:=z6Q e.kind
   cases hcb:qD e.kind with
   | true =>
    have hst:z0z s e=z0l s e:=by simp [z0z,hkk,hcb]
    rw [hcb] at hch
    have hc:=zai b s a1 a2 a3 e he (by omega)
    rw [← hst] at hc
    cases ho:z0z s e with
    | none =>
     have hn:addP s e=none:=by simp [addP,hno',ho]
     rw [ho] at hc
     rw [hpe] at hop hc ⊢
     simp only [evA,evC,List.map_cons,List.map_nil] at hv hc ⊢
     refine MemC.of Try.func76 rfl 54 rfl (by decide) ?_;simp only [z0t,frOf]
     repeat' (first|refine T.zh fun K hK=>?_|refine T.block ?_|(refine T.reg (by kernel_rfl) fun K' hK'=>?_;simp only [bz];(repeat' (first|(with_reducible refine WL.fin ?_;refine hK' _ ?_;clear hK' K')|((with_reducible refine WL.step fun K2 hK2=>?_);simp only [simprocAttr,implies_true,amz,tys];(repeat' with_reducible (first|(refine hK2 _ ?_;clear hK2 K2)|refine And.intro ?_ ?_|intro hb))))))|refine T.skip ?_|refine T.exit ?_|refine T.zf rfl ?_|refine T.ze rfl ?_|refine T.cond rfl (fun hc=>?_) (fun hc=>?_)|refine T.ret ?_|simp only [za,z8,reduceIte,Nat.reduceEqDiff]|((repeat ((fail_if_success (refine hK _ ?_));clear hK K));refine hK _ ?_;clear hK K))
     refine T.drw 23 (by kernel_rfl) (by kernel_rfl) fun K' hK'=>?_;simp only [List.map_cons,List.map_nil];(repeat' (first|(with_reducible refine WL.fin ?_;refine hK' _ ?_;clear hK' K')|(with_reducible refine WD.fin ?_)|((with_reducible first|refine WL.step fun K2 hK2=>?_|refine WD.step fun K2 hK2=>?_);simp only [simprocAttr,implies_true,amz,tys,v2,v3];(repeat' (first|with_reducible (first|(refine hK2 _ ?_;clear hK2 K2)|refine And.intro ?_ ?_|intro hb)|((first|(with_reducible apply zg)|(with_reducible apply zl));case h=>exact CallV.plain (Ent.of Try.func83 (by kernel_rfl) rfl) (hv) (by simp [AV.okB])))))));all_goals ((try simp only [za,z8,reduceIte,Nat.reduceEqDiff]);(try ((repeat ((fail_if_success (refine hK _ ?_));clear hK K));refine hK _ ?_;clear hK K)))
     all_goals (repeat' (first|refine T.zh fun K hK=>?_|refine T.block ?_|(refine T.reg (by kernel_rfl) fun K' hK'=>?_;simp only [bz];(repeat' (first|(with_reducible refine WL.fin ?_;refine hK' _ ?_;clear hK' K')|((with_reducible refine WL.step fun K2 hK2=>?_);simp only [simprocAttr,implies_true,amz,tys];(repeat' (first|with_reducible (first|(refine hK2 _ ?_;clear hK2 K2)|refine And.intro ?_ ?_|intro hb)|((with_reducible refine qp 4 _ _ [0] (Ent.of Try.func77 (by kernel_rfl) rfl) (hop) ?_ ?_ ?_);(focus ((refine ⟨Nat.le_of_ble_eq_true rfl,?_,?_⟩ <;> simp only [List.mem_cons,List.not_mem_nil,or_false,forall_eq_or_imp,forall_eq,zx,qf,reduceIte,Nat.reduceEqDiff,AO.qg,AO.qI,AO.qG,AO.qH,AV.okB,AV.qa,AV.qo,AV.qy,List.all_cons,List.all_nil,Bool.and_true,Bool.and_self,Nat.reduceLT,decide_true,true_and,and_true,Option.isSome_some,true_implies,false_implies,implies_true,and_self,Nat.lt_irrefl,Option.some.injEq,]);done));(focus (simp [AV.okB];done));rintro hp' r ⟨rfl,rfl⟩;refine ⟨by simp [Kept,zx,AO.handle],?_⟩;simp only [ASt.qU,AV.zU,AV.zS,AV.zM,AV.zW,AV.ql,AV.zY,AV.zJ,AV.zL,AV.qh,AV.zZ,AV.zX,AO.keep,List.map_cons,List.map_nil,List.filter_cons,List.filter_nil,Nat.reduceLeDiff,decide_true,decide_false,reduceIte,Bool.false_eq_true,List.cons_append,List.nil_append,List.mem_cons,List.not_mem_nil,or_false,false_or,or_true,true_or,Nat.reduceEqDiff,zH,qm,Nat.le_refl,])|((first|(with_reducible apply zg)|(with_reducible apply zl));case h=>exact CallV.plain (Ent.of Try.func85 (by kernel_rfl) rfl) (hch) (by simp [AV.okB]))|((with_reducible refine qp 4 _ _ [0] (Ent.of Try.func86 (by kernel_rfl) rfl) (hc) ?_ ?_ ?_);(focus ((refine ⟨Nat.le_of_ble_eq_true rfl,?_,?_⟩ <;> simp only [List.mem_cons,List.not_mem_nil,or_false,forall_eq_or_imp,forall_eq,zx,qf,reduceIte,Nat.reduceEqDiff,AO.qg,AO.qI,AO.qG,AO.qH,AV.okB,AV.qa,AV.qo,AV.qy,List.all_cons,List.all_nil,Bool.and_true,Bool.and_self,Nat.reduceLT,decide_true,true_and,and_true,Option.isSome_some,true_implies,false_implies,implies_true,and_self,Nat.lt_irrefl,Option.some.injEq,]);done));(focus (simp [AV.okB];done));rintro hp' r ⟨rfl,x1,x2,x3,l1,l2,l3,rfl⟩;refine ⟨by simp [Kept,hpS,zx,AO.handle],?_⟩;simp only [Option.getD_none,Option.getD_some,Option.isSome_none,Option.isSome_some,hpS,gpC];simp only [ASt.qU,AV.zU,AV.zS,AV.zM,AV.zW,AV.ql,AV.zY,AV.zJ,AV.zL,AV.qh,AV.zZ,AV.zX,AO.keep,List.map_cons,List.map_nil,List.filter_cons,List.filter_nil,Nat.reduceLeDiff,decide_true,decide_false,reduceIte,Bool.false_eq_true,List.cons_append,List.nil_append,List.mem_cons,List.not_mem_nil,or_false,false_or,or_true,true_or,Nat.reduceEqDiff,zH,qm,Nat.le_refl,])))))))|refine T.skip ?_|refine T.exit ?_|refine T.zf rfl ?_|refine T.ze rfl ?_|refine T.cond rfl (fun hc=>?_) (fun hc=>?_)|refine T.ret ?_|simp only [za,z8,reduceIte,Nat.reduceEqDiff]|((repeat ((fail_if_success (refine hK _ ?_));clear hK K));refine hK _ ?_;clear hK K)))
     all_goals first
      | ((refine FinM.ret (s':=⟨[(4,.bool false)],hpS b s x1 x2 x3,54,4⟩) (r := .bool false) (.inr rfl) Try.results76 (by refine zk.of' rfl ?_;simp only [wks,reduceIte,Nat.reduceEqDiff,ASt.okB,AV.okB,Nat.reduceLT,implies_true,hpS,gpC,List.map_cons,List.map_nil]) rfl ?_ ?_;(focus (simp only [zu,zo,zn,simprocAttr,implies_true,amz,tys,];done)));exact QS.no' hn l1 l2 l3;done)
      | fail
    | some t =>
     have hy:addP s e=some { t with ev:=wI (t.ev+1) }:=by simp [addP,hno',ho]
     rw [ho] at hc
     rw [hpe] at hop hc ⊢
     simp only [evA,evC,List.map_cons,List.map_nil] at hv hc ⊢
     refine MemC.of Try.func76 rfl 54 rfl (by decide) ?_;simp only [z0t,frOf]
     repeat' (first|refine T.zh fun K hK=>?_|refine T.block ?_|(refine T.reg (by kernel_rfl) fun K' hK'=>?_;simp only [bz];(repeat' (first|(with_reducible refine WL.fin ?_;refine hK' _ ?_;clear hK' K')|((with_reducible refine WL.step fun K2 hK2=>?_);simp only [simprocAttr,implies_true,amz,tys];(repeat' with_reducible (first|(refine hK2 _ ?_;clear hK2 K2)|refine And.intro ?_ ?_|intro hb))))))|refine T.skip ?_|refine T.exit ?_|refine T.zf rfl ?_|refine T.ze rfl ?_|refine T.cond rfl (fun hc=>?_) (fun hc=>?_)|refine T.ret ?_|simp only [za,z8,reduceIte,Nat.reduceEqDiff]|((repeat ((fail_if_success (refine hK _ ?_));clear hK K));refine hK _ ?_;clear hK K))
     refine T.drw 23 (by kernel_rfl) (by kernel_rfl) fun K' hK'=>?_;simp only [List.map_cons,List.map_nil];(repeat' (first|(with_reducible refine WL.fin ?_;refine hK' _ ?_;clear hK' K')|(with_reducible refine WD.fin ?_)|((with_reducible first|refine WL.step fun K2 hK2=>?_|refine WD.step fun K2 hK2=>?_);simp only [simprocAttr,implies_true,amz,tys,v2,v3];(repeat' (first|with_reducible (first|(refine hK2 _ ?_;clear hK2 K2)|refine And.intro ?_ ?_|intro hb)|((first|(with_reducible apply zg)|(with_reducible apply zl));case h=>exact CallV.plain (Ent.of Try.func83 (by kernel_rfl) rfl) (hv) (by simp [AV.okB])))))));all_goals ((try simp only [za,z8,reduceIte,Nat.reduceEqDiff]);(try ((repeat ((fail_if_success (refine hK _ ?_));clear hK K));refine hK _ ?_;clear hK K)))
     all_goals (repeat' (first|refine T.zh fun K hK=>?_|refine T.block ?_|(refine T.reg (by kernel_rfl) fun K' hK'=>?_;simp only [bz];(repeat' (first|(with_reducible refine WL.fin ?_;refine hK' _ ?_;clear hK' K')|((with_reducible refine WL.step fun K2 hK2=>?_);simp only [simprocAttr,implies_true,amz,tys];(repeat' (first|with_reducible (first|(refine hK2 _ ?_;clear hK2 K2)|refine And.intro ?_ ?_|intro hb)|((with_reducible refine qp 4 _ _ [0] (Ent.of Try.func77 (by kernel_rfl) rfl) (hop) ?_ ?_ ?_);(focus ((refine ⟨Nat.le_of_ble_eq_true rfl,?_,?_⟩ <;> simp only [List.mem_cons,List.not_mem_nil,or_false,forall_eq_or_imp,forall_eq,zx,qf,reduceIte,Nat.reduceEqDiff,AO.qg,AO.qI,AO.qG,AO.qH,AV.okB,AV.qa,AV.qo,AV.qy,List.all_cons,List.all_nil,Bool.and_true,Bool.and_self,Nat.reduceLT,decide_true,true_and,and_true,Option.isSome_some,true_implies,false_implies,implies_true,and_self,Nat.lt_irrefl,Option.some.injEq,]);done));(focus (simp [AV.okB];done));rintro hp' r ⟨rfl,rfl⟩;refine ⟨by simp [Kept,zx,AO.handle],?_⟩;simp only [ASt.qU,AV.zU,AV.zS,AV.zM,AV.zW,AV.ql,AV.zY,AV.zJ,AV.zL,AV.qh,AV.zZ,AV.zX,AO.keep,List.map_cons,List.map_nil,List.filter_cons,List.filter_nil,Nat.reduceLeDiff,decide_true,decide_false,reduceIte,Bool.false_eq_true,List.cons_append,List.nil_append,List.mem_cons,List.not_mem_nil,or_false,false_or,or_true,true_or,Nat.reduceEqDiff,zH,qm,Nat.le_refl,])|((first|(with_reducible apply zg)|(with_reducible apply zl));case h=>exact CallV.plain (Ent.of Try.func85 (by kernel_rfl) rfl) (hch) (by simp [AV.okB]))|((with_reducible refine qp 4 _ _ [0] (Ent.of Try.func86 (by kernel_rfl) rfl) (hc) ?_ ?_ ?_);(focus ((refine ⟨Nat.le_of_ble_eq_true rfl,?_,?_⟩ <;> simp only [List.mem_cons,List.not_mem_nil,or_false,forall_eq_or_imp,forall_eq,zx,qf,reduceIte,Nat.reduceEqDiff,AO.qg,AO.qI,AO.qG,AO.qH,AV.okB,AV.qa,AV.qo,AV.qy,List.all_cons,List.all_nil,Bool.and_true,Bool.and_self,Nat.reduceLT,decide_true,true_and,and_true,Option.isSome_some,true_implies,false_implies,implies_true,and_self,Nat.lt_irrefl,Option.some.injEq,]);done));(focus (simp [AV.okB];done));rintro hp' r ⟨rfl,x1,x2,x3,l1,l2,l3,rfl⟩;refine ⟨by simp [Kept,hpS,zx,AO.handle],?_⟩;simp only [Option.getD_none,Option.getD_some,Option.isSome_none,Option.isSome_some,hpS,gpC];simp only [ASt.qU,AV.zU,AV.zS,AV.zM,AV.zW,AV.ql,AV.zY,AV.zJ,AV.zL,AV.qh,AV.zZ,AV.zX,AO.keep,List.map_cons,List.map_nil,List.filter_cons,List.filter_nil,Nat.reduceLeDiff,decide_true,decide_false,reduceIte,Bool.false_eq_true,List.cons_append,List.nil_append,List.mem_cons,List.not_mem_nil,or_false,false_or,or_true,true_or,Nat.reduceEqDiff,zH,qm,Nat.le_refl,])))))))|refine T.skip ?_|refine T.exit ?_|refine T.zf rfl ?_|refine T.ze rfl ?_|refine T.cond rfl (fun hc=>?_) (fun hc=>?_)|refine T.ret ?_|simp only [za,z8,reduceIte,Nat.reduceEqDiff]|((repeat ((fail_if_success (refine hK _ ?_));clear hK K));refine hK _ ?_;clear hK K)))
     all_goals first
      | ((refine FinM.ret (s':=⟨[(4,.bool true)],hpS b { t with ev:=wI (t.ev+1) } x1 x2 x3,54,4⟩) (r := .bool true) (.inr rfl) Try.results76 (by refine zk.of' rfl ?_;simp only [wks,reduceIte,Nat.reduceEqDiff,ASt.okB,AV.okB,Nat.reduceLT,implies_true,hpS,gpC,List.map_cons,List.map_nil]) rfl ?_ ?_;(focus (simp only [zu,zo,zn,simprocAttr,implies_true,amz,tys,];done)));exact QS.yes _ x1 x2 x3 hy l1 l2 l3;done)
      | fail
   | false =>
    have hst:z0z s e=z0m s e:=by simp [z0z,hkk,hcb]
    rw [hcb] at hch
    have hc:=simple_ok b s a1 a2 a3 e he (by omega) (by omega)
    rw [← hst] at hc
    cases ho:z0z s e with
    | none =>
     have hn:addP s e=none:=by simp [addP,hno',ho]
     rw [ho] at hc
     rw [hpe] at hop hc ⊢
     simp only [evA,evC,List.map_cons,List.map_nil] at hv hc ⊢
     refine MemC.of Try.func76 rfl 54 rfl (by decide) ?_;simp only [z0t,frOf]
     repeat' (first|refine T.zh fun K hK=>?_|refine T.block ?_|(refine T.reg (by kernel_rfl) fun K' hK'=>?_;simp only [bz];(repeat' (first|(with_reducible refine WL.fin ?_;refine hK' _ ?_;clear hK' K')|((with_reducible refine WL.step fun K2 hK2=>?_);simp only [simprocAttr,implies_true,amz,tys];(repeat' with_reducible (first|(refine hK2 _ ?_;clear hK2 K2)|refine And.intro ?_ ?_|intro hb))))))|refine T.skip ?_|refine T.exit ?_|refine T.zf rfl ?_|refine T.ze rfl ?_|refine T.cond rfl (fun hc=>?_) (fun hc=>?_)|refine T.ret ?_|simp only [za,z8,reduceIte,Nat.reduceEqDiff]|((repeat ((fail_if_success (refine hK _ ?_));clear hK K));refine hK _ ?_;clear hK K))
     refine T.drw 23 (by kernel_rfl) (by kernel_rfl) fun K' hK'=>?_;simp only [List.map_cons,List.map_nil];(repeat' (first|(with_reducible refine WL.fin ?_;refine hK' _ ?_;clear hK' K')|(with_reducible refine WD.fin ?_)|((with_reducible first|refine WL.step fun K2 hK2=>?_|refine WD.step fun K2 hK2=>?_);simp only [simprocAttr,implies_true,amz,tys,v2,v3];(repeat' (first|with_reducible (first|(refine hK2 _ ?_;clear hK2 K2)|refine And.intro ?_ ?_|intro hb)|((first|(with_reducible apply zg)|(with_reducible apply zl));case h=>exact CallV.plain (Ent.of Try.func83 (by kernel_rfl) rfl) (hv) (by simp [AV.okB])))))));all_goals ((try simp only [za,z8,reduceIte,Nat.reduceEqDiff]);(try ((repeat ((fail_if_success (refine hK _ ?_));clear hK K));refine hK _ ?_;clear hK K)))
     all_goals (repeat' (first|refine T.zh fun K hK=>?_|refine T.block ?_|(refine T.reg (by kernel_rfl) fun K' hK'=>?_;simp only [bz];(repeat' (first|(with_reducible refine WL.fin ?_;refine hK' _ ?_;clear hK' K')|((with_reducible refine WL.step fun K2 hK2=>?_);simp only [simprocAttr,implies_true,amz,tys];(repeat' (first|with_reducible (first|(refine hK2 _ ?_;clear hK2 K2)|refine And.intro ?_ ?_|intro hb)|((with_reducible refine qp 4 _ _ [0] (Ent.of Try.func77 (by kernel_rfl) rfl) (hop) ?_ ?_ ?_);(focus ((refine ⟨Nat.le_of_ble_eq_true rfl,?_,?_⟩ <;> simp only [List.mem_cons,List.not_mem_nil,or_false,forall_eq_or_imp,forall_eq,zx,qf,reduceIte,Nat.reduceEqDiff,AO.qg,AO.qI,AO.qG,AO.qH,AV.okB,AV.qa,AV.qo,AV.qy,List.all_cons,List.all_nil,Bool.and_true,Bool.and_self,Nat.reduceLT,decide_true,true_and,and_true,Option.isSome_some,true_implies,false_implies,implies_true,and_self,Nat.lt_irrefl,Option.some.injEq,]);done));(focus (simp [AV.okB];done));rintro hp' r ⟨rfl,rfl⟩;refine ⟨by simp [Kept,zx,AO.handle],?_⟩;simp only [ASt.qU,AV.zU,AV.zS,AV.zM,AV.zW,AV.ql,AV.zY,AV.zJ,AV.zL,AV.qh,AV.zZ,AV.zX,AO.keep,List.map_cons,List.map_nil,List.filter_cons,List.filter_nil,Nat.reduceLeDiff,decide_true,decide_false,reduceIte,Bool.false_eq_true,List.cons_append,List.nil_append,List.mem_cons,List.not_mem_nil,or_false,false_or,or_true,true_or,Nat.reduceEqDiff,zH,qm,Nat.le_refl,])|((first|(with_reducible apply zg)|(with_reducible apply zl));case h=>exact CallV.plain (Ent.of Try.func85 (by kernel_rfl) rfl) (hch) (by simp [AV.okB]))|((with_reducible refine qp 4 _ _ [0] (Ent.of Try.func87 (by kernel_rfl) rfl) (hc) ?_ ?_ ?_);(focus ((refine ⟨Nat.le_of_ble_eq_true rfl,?_,?_⟩ <;> simp only [List.mem_cons,List.not_mem_nil,or_false,forall_eq_or_imp,forall_eq,zx,qf,reduceIte,Nat.reduceEqDiff,AO.qg,AO.qI,AO.qG,AO.qH,AV.okB,AV.qa,AV.qo,AV.qy,List.all_cons,List.all_nil,Bool.and_true,Bool.and_self,Nat.reduceLT,decide_true,true_and,and_true,Option.isSome_some,true_implies,false_implies,implies_true,and_self,Nat.lt_irrefl,Option.some.injEq,]);done));(focus (simp [AV.okB];done));rintro hp' r ⟨rfl,x1,x2,x3,l1,l2,l3,rfl⟩;refine ⟨by simp [Kept,hpS,zx,AO.handle],?_⟩;simp only [Option.getD_none,Option.getD_some,Option.isSome_none,Option.isSome_some,hpS,gpC];simp only [ASt.qU,AV.zU,AV.zS,AV.zM,AV.zW,AV.ql,AV.zY,AV.zJ,AV.zL,AV.qh,AV.zZ,AV.zX,AO.keep,List.map_cons,List.map_nil,List.filter_cons,List.filter_nil,Nat.reduceLeDiff,decide_true,decide_false,reduceIte,Bool.false_eq_true,List.cons_append,List.nil_append,List.mem_cons,List.not_mem_nil,or_false,false_or,or_true,true_or,Nat.reduceEqDiff,zH,qm,Nat.le_refl,])))))))|refine T.skip ?_|refine T.exit ?_|refine T.zf rfl ?_|refine T.ze rfl ?_|refine T.cond rfl (fun hc=>?_) (fun hc=>?_)|refine T.ret ?_|simp only [za,z8,reduceIte,Nat.reduceEqDiff]|((repeat ((fail_if_success (refine hK _ ?_));clear hK K));refine hK _ ?_;clear hK K)))
     all_goals first
      | ((refine FinM.ret (s':=⟨[(4,.bool false)],hpS b s x1 x2 x3,54,4⟩) (r := .bool false) (.inr rfl) Try.results76 (by refine zk.of' rfl ?_;simp only [wks,reduceIte,Nat.reduceEqDiff,ASt.okB,AV.okB,Nat.reduceLT,implies_true,hpS,gpC,List.map_cons,List.map_nil]) rfl ?_ ?_;(focus (simp only [zu,zo,zn,simprocAttr,implies_true,amz,tys,];done)));exact QS.no' hn l1 l2 l3;done)
      | fail
    | some t =>
     have hy:addP s e=some { t with ev:=wI (t.ev+1) }:=by simp [addP,hno',ho]
     rw [ho] at hc
     rw [hpe] at hop hc ⊢
     simp only [evA,evC,List.map_cons,List.map_nil] at hv hc ⊢
     refine MemC.of Try.func76 rfl 54 rfl (by decide) ?_;simp only [z0t,frOf]
     repeat' (first|refine T.zh fun K hK=>?_|refine T.block ?_|(refine T.reg (by kernel_rfl) fun K' hK'=>?_;simp only [bz];(repeat' (first|(with_reducible refine WL.fin ?_;refine hK' _ ?_;clear hK' K')|((with_reducible refine WL.step fun K2 hK2=>?_);simp only [simprocAttr,implies_true,amz,tys];(repeat' with_reducible (first|(refine hK2 _ ?_;clear hK2 K2)|refine And.intro ?_ ?_|intro hb))))))|refine T.skip ?_|refine T.exit ?_|refine T.zf rfl ?_|refine T.ze rfl ?_|refine T.cond rfl (fun hc=>?_) (fun hc=>?_)|refine T.ret ?_|simp only [za,z8,reduceIte,Nat.reduceEqDiff]|((repeat ((fail_if_success (refine hK _ ?_));clear hK K));refine hK _ ?_;clear hK K))
     refine T.drw 23 (by kernel_rfl) (by kernel_rfl) fun K' hK'=>?_;simp only [List.map_cons,List.map_nil];(repeat' (first|(with_reducible refine WL.fin ?_;refine hK' _ ?_;clear hK' K')|(with_reducible refine WD.fin ?_)|((with_reducible first|refine WL.step fun K2 hK2=>?_|refine WD.step fun K2 hK2=>?_);simp only [simprocAttr,implies_true,amz,tys,v2,v3];(repeat' (first|with_reducible (first|(refine hK2 _ ?_;clear hK2 K2)|refine And.intro ?_ ?_|intro hb)|((first|(with_reducible apply zg)|(with_reducible apply zl));case h=>exact CallV.plain (Ent.of Try.func83 (by kernel_rfl) rfl) (hv) (by simp [AV.okB])))))));all_goals ((try simp only [za,z8,reduceIte,Nat.reduceEqDiff]);(try ((repeat ((fail_if_success (refine hK _ ?_));clear hK K));refine hK _ ?_;clear hK K)))
     all_goals (repeat' (first|refine T.zh fun K hK=>?_|refine T.block ?_|(refine T.reg (by kernel_rfl) fun K' hK'=>?_;simp only [bz];(repeat' (first|(with_reducible refine WL.fin ?_;refine hK' _ ?_;clear hK' K')|((with_reducible refine WL.step fun K2 hK2=>?_);simp only [simprocAttr,implies_true,amz,tys];(repeat' (first|with_reducible (first|(refine hK2 _ ?_;clear hK2 K2)|refine And.intro ?_ ?_|intro hb)|((with_reducible refine qp 4 _ _ [0] (Ent.of Try.func77 (by kernel_rfl) rfl) (hop) ?_ ?_ ?_);(focus ((refine ⟨Nat.le_of_ble_eq_true rfl,?_,?_⟩ <;> simp only [List.mem_cons,List.not_mem_nil,or_false,forall_eq_or_imp,forall_eq,zx,qf,reduceIte,Nat.reduceEqDiff,AO.qg,AO.qI,AO.qG,AO.qH,AV.okB,AV.qa,AV.qo,AV.qy,List.all_cons,List.all_nil,Bool.and_true,Bool.and_self,Nat.reduceLT,decide_true,true_and,and_true,Option.isSome_some,true_implies,false_implies,implies_true,and_self,Nat.lt_irrefl,Option.some.injEq,]);done));(focus (simp [AV.okB];done));rintro hp' r ⟨rfl,rfl⟩;refine ⟨by simp [Kept,zx,AO.handle],?_⟩;simp only [ASt.qU,AV.zU,AV.zS,AV.zM,AV.zW,AV.ql,AV.zY,AV.zJ,AV.zL,AV.qh,AV.zZ,AV.zX,AO.keep,List.map_cons,List.map_nil,List.filter_cons,List.filter_nil,Nat.reduceLeDiff,decide_true,decide_false,reduceIte,Bool.false_eq_true,List.cons_append,List.nil_append,List.mem_cons,List.not_mem_nil,or_false,false_or,or_true,true_or,Nat.reduceEqDiff,zH,qm,Nat.le_refl,])|((first|(with_reducible apply zg)|(with_reducible apply zl));case h=>exact CallV.plain (Ent.of Try.func85 (by kernel_rfl) rfl) (hch) (by simp [AV.okB]))|((with_reducible refine qp 4 _ _ [0] (Ent.of Try.func87 (by kernel_rfl) rfl) (hc) ?_ ?_ ?_);(focus ((refine ⟨Nat.le_of_ble_eq_true rfl,?_,?_⟩ <;> simp only [List.mem_cons,List.not_mem_nil,or_false,forall_eq_or_imp,forall_eq,zx,qf,reduceIte,Nat.reduceEqDiff,AO.qg,AO.qI,AO.qG,AO.qH,AV.okB,AV.qa,AV.qo,AV.qy,List.all_cons,List.all_nil,Bool.and_true,Bool.and_self,Nat.reduceLT,decide_true,true_and,and_true,Option.isSome_some,true_implies,false_implies,implies_true,and_self,Nat.lt_irrefl,Option.some.injEq,]);done));(focus (simp [AV.okB];done));rintro hp' r ⟨rfl,x1,x2,x3,l1,l2,l3,rfl⟩;refine ⟨by simp [Kept,hpS,zx,AO.handle],?_⟩;simp only [Option.getD_none,Option.getD_some,Option.isSome_none,Option.isSome_some,hpS,gpC];simp only [ASt.qU,AV.zU,AV.zS,AV.zM,AV.zW,AV.ql,AV.zY,AV.zJ,AV.zL,AV.qh,AV.zZ,AV.zX,AO.keep,List.map_cons,List.map_nil,List.filter_cons,List.filter_nil,Nat.reduceLeDiff,decide_true,decide_false,reduceIte,Bool.false_eq_true,List.cons_append,List.nil_append,List.mem_cons,List.not_mem_nil,or_false,false_or,or_true,true_or,Nat.reduceEqDiff,zH,qm,Nat.le_refl,])))))))|refine T.skip ?_|refine T.exit ?_|refine T.zf rfl ?_|refine T.ze rfl ?_|refine T.cond rfl (fun hc=>?_) (fun hc=>?_)|refine T.ret ?_|simp only [za,z8,reduceIte,Nat.reduceEqDiff]|((repeat ((fail_if_success (refine hK _ ?_));clear hK K));refine hK _ ?_;clear hK K)))
     all_goals first
      | ((refine FinM.ret (s':=⟨[(4,.bool true)],hpS b { t with ev:=wI (t.ev+1) } x1 x2 x3,54,4⟩) (r := .bool true) (.inr rfl) Try.results76 (by refine zk.of' rfl ?_;simp only [wks,reduceIte,Nat.reduceEqDiff,ASt.okB,AV.okB,Nat.reduceLT,implies_true,hpS,gpC,List.map_cons,List.map_nil]) rfl ?_ ?_;(focus (simp only [zu,zo,zn,simprocAttr,implies_true,amz,tys,];done)));exact QS.yes _ x1 x2 x3 hy l1 l2 l3;done)
      | fail
def goQ (s:Ps) (k:Int):List Ev→Int
 | []=>k
 | e :: r=>match addP s e with
  | some t=>goQ t (k+1) r
  | none=>k
theorem goQ_le : ∀ (l:List Ev) (s:Ps) (k:Int),goQ s k l≤k+l.length∧(goQ s k l=k+l.length↔goP s l=true)
 | [],s,k=>by simp [goQ,goP]
 | e :: r,s,k=>by
  unfold goQ goP
  cases h:addP s e with
  | none=>simp;omega
  | some t =>
   obtain ⟨h1,h2⟩:=goQ_le r t (k+1)
   simp only [List.length_cons]
   refine ⟨by omega,?_⟩
   rw [← h2]
   constructor <;> intro h3 <;> omega
theorem follow_ok (l:List Ev) (hl:l.length≤100000):zq Try.prog 64 [.p (.seq 9 (l.map evC))] (.tup [.zB,.int (goQ ps0 0 l),.zB]):=by
 refine zq.of Try.func64 rfl 28 rfl (by decide) (by simp [AV.okB]) ?_
 repeat' (first|refine T.zh fun K hK=>?_|refine T.block ?_|refine T.skip ?_|refine T.exit ?_|refine T.zf rfl ?_|refine T.ze rfl ?_|refine T.cond rfl (fun hc=>?_) (fun hc=>?_)|refine T.ret ?_|simp only [za,z8,reduceIte,Nat.reduceEqDiff]|((repeat ((fail_if_success (refine hK _ ?_));clear hK K));refine hK _ ?_;clear hK K))
 (refine T.reg (by kernel_rfl) fun K' hK'=>?_;simp only [bz];(repeat' (first|(with_reducible refine WL.fin ?_;refine hK' _ ?_;clear hK' K')|((with_reducible refine WL.step fun K2 hK2=>?_);simp only [simprocAttr,implies_true,amz,tys];(repeat' with_reducible (first|(refine hK2 _ ?_;clear hK2 K2)|refine And.intro ?_ ?_|intro hb)))));all_goals ((try simp only [za,z8,reduceIte,Nat.reduceEqDiff]);(try ((repeat ((fail_if_success (refine hK _ ?_));clear hK K));refine hK _ ?_;clear hK K))))
 refine T.weak (zk.upN _ 4 (Nat.le_of_ble_eq_true rfl)) ?_
 repeat' (first|refine T.zh fun K hK=>?_|refine T.block ?_|(refine T.reg (by kernel_rfl) fun K' hK'=>?_;simp only [bz];(repeat' (first|(with_reducible refine WL.fin ?_;refine hK' _ ?_;clear hK' K')|((with_reducible refine WL.step fun K2 hK2=>?_);simp only [simprocAttr,implies_true,amz,tys];(repeat' (first|with_reducible (first|(refine hK2 _ ?_;clear hK2 K2)|refine And.intro ?_ ?_|intro hb)|((with_reducible refine qp 4 [] _ [] (Ent.of Try.func75 (by kernel_rfl) rfl) newS_ok ?_ ?_ ?_);(focus ((refine ⟨Nat.le_of_ble_eq_true rfl,?_,?_⟩ <;> simp only [List.mem_cons,List.not_mem_nil,or_false,forall_eq_or_imp,forall_eq,zx,qf,reduceIte,Nat.reduceEqDiff,AO.qg,AO.qI,AO.qG,AO.qH,AV.okB,AV.qa,AV.qo,AV.qy,List.all_cons,List.all_nil,Bool.and_true,Bool.and_self,Nat.reduceLT,decide_true,true_and,and_true,Option.isSome_some,true_implies,false_implies,implies_true,and_self,Nat.lt_irrefl,Option.some.injEq,]);done));(focus (simp [AV.okB];done));rintro hp' r ⟨b,rfl,rfl⟩;refine ⟨by simp,?_⟩;simp only [ASt.qU,AV.zU,AV.zS,AV.zM,AV.zW,AV.ql,AV.zY,AV.zJ,AV.zL,AV.qh,AV.zZ,AV.zX,AO.keep,List.map_cons,List.map_nil,List.filter_cons,List.filter_nil,Nat.reduceLeDiff,decide_true,decide_false,reduceIte,Bool.false_eq_true,List.cons_append,List.nil_append,List.mem_cons,List.not_mem_nil,or_false,false_or,or_true,true_or,Nat.reduceEqDiff,zH,qm,Nat.le_refl,hpS,gpC])))))))|refine T.skip ?_|refine T.exit ?_|refine T.zf rfl ?_|refine T.ze rfl ?_|refine T.cond rfl (fun hc=>?_) (fun hc=>?_)|refine T.ret ?_|simp only [za,z8,reduceIte,Nat.reduceEqDiff]|((repeat ((fail_if_success (refine hK _ ?_));clear hK K));refine hK _ ?_;clear hK K))
 refine T.qc (fun p:Nat × Ps × Nat × Nat × Nat × Int=>⟨[(0,.p (.seq 9 (l.map evC))),(2,.ptr 0 0),(3,.int p.1),(4,.int p.2.2.2.2.2)],hpS b p.2.1 p.2.2.1 p.2.2.2.1 p.2.2.2.2.1,28,4⟩) (fun p=>p.1≤l.length∧p.2.2.1≤2*p.1∧p.2.2.2.1≤2*p.1∧p.2.2.2.2.1≤2*p.1∧goQ ps0 0 l=goQ p.2.1 p.1 (l.drop p.1)) (fun p=>l.length-p.1) (0,ps0,0,0,0,0) ⟨Nat.zero_le _,by simp,by simp,by simp,rfl⟩ (by refine zk.of' rfl ?_;simp only [wks,reduceIte,Nat.reduceEqDiff,ASt.okB,AV.okB,Nat.reduceLT,implies_true,Int.natCast_zero,hpS,gpC,List.map_cons,List.map_nil]) ?_
 rintro ⟨k,s,a1,a2,a3,c⟩ ⟨hk,q1,q2,q3,hn⟩ KL hKL
 simp only at hk q1 q2 q3 hn hKL ⊢
 by_cases hlt:k<l.length
 ·obtain ⟨x,hx⟩:=zT hlt
  have hd:decide ((k:Int)<(l.length:Int))=true:=by simpa using hlt
  rw [drop_at hx,goQ] at hn
  have hc:=addS_ok b s a1 a2 a3 x (by omega) (by omega) (by omega)
  cases ha:addP s x with
  | none =>
   rw [ha] at hc hn
   simp only [evA,evC,List.map_cons,List.map_nil] at hc
   simp only [hpS,gpC]
   repeat' (first|refine T.zh fun K hK=>?_|refine T.block ?_|(refine T.reg (by kernel_rfl) fun K' hK'=>?_;simp only [bz];(repeat' (first|(with_reducible refine WL.fin ?_;refine hK' _ ?_;clear hK' K')|((with_reducible refine WL.step fun K2 hK2=>?_);simp only [simprocAttr,implies_true,amz,tys,hx,hd,evC];(repeat' (first|with_reducible (first|(refine hK2 _ ?_;clear hK2 K2)|refine And.intro ?_ ?_|intro hb)|((with_reducible refine qp 4 _ _ [0] (Ent.of Try.func76 (by kernel_rfl) rfl) (hc) ?_ ?_ ?_);(focus ((refine ⟨Nat.le_of_ble_eq_true rfl,?_,?_⟩ <;> simp only [List.mem_cons,List.not_mem_nil,or_false,forall_eq_or_imp,forall_eq,zx,qf,reduceIte,Nat.reduceEqDiff,AO.qg,AO.qI,AO.qG,AO.qH,AV.okB,AV.qa,AV.qo,AV.qy,List.all_cons,List.all_nil,Bool.and_true,Bool.and_self,Nat.reduceLT,decide_true,true_and,and_true,Option.isSome_some,true_implies,false_implies,implies_true,and_self,Nat.lt_irrefl,Option.some.injEq,hpS,gpC]);done));(focus (simp [AV.okB];done));rintro hp' r ⟨rfl,x1,x2,x3,l1,l2,l3,rfl⟩;refine ⟨by simp [Kept,hpS,zx,AO.handle],?_⟩;simp only [Option.getD_none,Option.getD_some,Option.isSome_none,Option.isSome_some,hpS,gpC];simp only [ASt.qU,AV.zU,AV.zS,AV.zM,AV.zW,AV.ql,AV.zY,AV.zJ,AV.zL,AV.qh,AV.zZ,AV.zX,AO.keep,List.map_cons,List.map_nil,List.filter_cons,List.filter_nil,Nat.reduceLeDiff,decide_true,decide_false,reduceIte,Bool.false_eq_true,List.cons_append,List.nil_append,List.mem_cons,List.not_mem_nil,or_false,false_or,or_true,true_or,Nat.reduceEqDiff,zH,qm,Nat.le_refl,])))))))|refine T.skip ?_|refine T.exit ?_|refine T.zf rfl ?_|refine T.ze rfl ?_|refine T.cond rfl (fun hc=>?_) (fun hc=>?_)|refine T.ret ?_|simp only [za,z8,reduceIte,Nat.reduceEqDiff]|((repeat ((fail_if_success (refine hK _ ?_));clear hK K));refine hK _ ?_;clear hK K))
   all_goals (refine zy.retW (.inr rfl) Try.results64 (s':=⟨[(2,.zB),(3,.int k),(4,.zB)],[],28,4⟩) (by refine zk.of' rfl ?_;simp only [wks,reduceIte,Nat.reduceEqDiff,ASt.okB,AV.okB,Nat.reduceLT,implies_true,]) ?_;simp only [zu,zo,zn,simprocAttr,implies_true,amz,tys];rw [hn])
  | some t =>
   rw [ha] at hc hn
   simp only [evA,evC,List.map_cons,List.map_nil] at hc
   simp only [hpS,gpC]
   repeat' (first|refine T.zh fun K hK=>?_|refine T.block ?_|(refine T.reg (by kernel_rfl) fun K' hK'=>?_;simp only [bz];(repeat' (first|(with_reducible refine WL.fin ?_;refine hK' _ ?_;clear hK' K')|((with_reducible refine WL.step fun K2 hK2=>?_);simp only [simprocAttr,implies_true,amz,tys,hx,hd,evC];(repeat' (first|with_reducible (first|(refine hK2 _ ?_;clear hK2 K2)|refine And.intro ?_ ?_|intro hb)|((with_reducible refine qp 4 _ _ [0] (Ent.of Try.func76 (by kernel_rfl) rfl) (hc) ?_ ?_ ?_);(focus ((refine ⟨Nat.le_of_ble_eq_true rfl,?_,?_⟩ <;> simp only [List.mem_cons,List.not_mem_nil,or_false,forall_eq_or_imp,forall_eq,zx,qf,reduceIte,Nat.reduceEqDiff,AO.qg,AO.qI,AO.qG,AO.qH,AV.okB,AV.qa,AV.qo,AV.qy,List.all_cons,List.all_nil,Bool.and_true,Bool.and_self,Nat.reduceLT,decide_true,true_and,and_true,Option.isSome_some,true_implies,false_implies,implies_true,and_self,Nat.lt_irrefl,Option.some.injEq,hpS,gpC]);done));(focus (simp [AV.okB];done));rintro hp' r ⟨rfl,x1,x2,x3,l1,l2,l3,rfl⟩;refine ⟨by simp [Kept,hpS,zx,AO.handle],?_⟩;simp only [Option.getD_none,Option.getD_some,Option.isSome_none,Option.isSome_some,hpS,gpC];simp only [ASt.qU,AV.zU,AV.zS,AV.zM,AV.zW,AV.ql,AV.zY,AV.zJ,AV.zL,AV.qh,AV.zZ,AV.zX,AO.keep,List.map_cons,List.map_nil,List.filter_cons,List.filter_nil,Nat.reduceLeDiff,decide_true,decide_false,reduceIte,Bool.false_eq_true,List.cons_append,List.nil_append,List.mem_cons,List.not_mem_nil,or_false,false_or,or_true,true_or,Nat.reduceEqDiff,zH,qm,Nat.le_refl,])|((with_reducible refine qp 4 _ _ [0] (Ent.of Try.func77 (by kernel_rfl) rfl) ((open_ok b t x1 x2 x3)) ?_ ?_ ?_);(focus ((refine ⟨Nat.le_of_ble_eq_true rfl,?_,?_⟩ <;> simp only [List.mem_cons,List.not_mem_nil,or_false,forall_eq_or_imp,forall_eq,zx,qf,reduceIte,Nat.reduceEqDiff,AO.qg,AO.qI,AO.qG,AO.qH,AV.okB,AV.qa,AV.qo,AV.qy,List.all_cons,List.all_nil,Bool.and_true,Bool.and_self,Nat.reduceLT,decide_true,true_and,and_true,Option.isSome_some,true_implies,false_implies,implies_true,and_self,Nat.lt_irrefl,Option.some.injEq,hpS,gpC]);done));(focus (simp [AV.okB];done));rintro hp' r ⟨rfl,rfl⟩;refine ⟨by simp [Kept,hpS,zx,AO.handle],?_⟩;simp only [hpS,gpC];simp only [ASt.qU,AV.zU,AV.zS,AV.zM,AV.zW,AV.ql,AV.zY,AV.zJ,AV.zL,AV.qh,AV.zZ,AV.zX,AO.keep,List.map_cons,List.map_nil,List.filter_cons,List.filter_nil,Nat.reduceLeDiff,decide_true,decide_false,reduceIte,Bool.false_eq_true,List.cons_append,List.nil_append,List.mem_cons,List.not_mem_nil,or_false,false_or,or_true,true_or,Nat.reduceEqDiff,zH,qm,Nat.le_refl,])))))))|refine T.skip ?_|refine T.exit ?_|refine T.zf rfl ?_|refine T.ze rfl ?_|refine T.cond rfl (fun hc=>?_) (fun hc=>?_)|refine T.ret ?_|simp only [za,z8,reduceIte,Nat.reduceEqDiff]|((repeat ((fail_if_success (refine hK _ ?_));clear hK K));refine hK _ ?_;clear hK K))
   ·refine hKL _ (k+1,t,x1,x2,x3,((k+1:Nat):Int)) (by refine zk.of' rfl ?_;simp only [wks,reduceIte,Nat.reduceEqDiff,ASt.okB,AV.okB,Nat.reduceLT,implies_true,zm (show k<1152921504606846976 by omega),hpS,gpC,List.map_cons,List.map_nil]) ⟨?_,?_,?_,?_,?_⟩ ?_ <;> simp only [] <;> first|omega|(rw [hn];rfl)
   ·refine hKL _ (k+1,t,x1,x2,x3,c) (by refine zk.of' rfl ?_;simp only [wks,reduceIte,Nat.reduceEqDiff,ASt.okB,AV.okB,Nat.reduceLT,implies_true,zm (show k<1152921504606846976 by omega),hpS,gpC,List.map_cons,List.map_nil]) ⟨?_,?_,?_,?_,?_⟩ ?_ <;> simp only [] <;> first|omega|(rw [hn];rfl)
 ·have hd:decide ((k:Int)<(l.length:Int))=false:=by simpa using hlt
  simp only [hpS,gpC]
  repeat' (first|refine T.zh fun K hK=>?_|refine T.block ?_|(refine T.reg (by kernel_rfl) fun K' hK'=>?_;simp only [bz];(repeat' (first|(with_reducible refine WL.fin ?_;refine hK' _ ?_;clear hK' K')|((with_reducible refine WL.step fun K2 hK2=>?_);simp only [simprocAttr,implies_true,amz,tys,hd];(repeat' with_reducible (first|(refine hK2 _ ?_;clear hK2 K2)|refine And.intro ?_ ?_|intro hb))))))|refine T.skip ?_|refine T.exit ?_|refine T.zf rfl ?_|refine T.ze rfl ?_|refine T.cond rfl (fun hc=>?_) (fun hc=>?_)|refine T.ret ?_|simp only [za,z8,reduceIte,Nat.reduceEqDiff]|((repeat ((fail_if_success (refine hK _ ?_));clear hK K));refine hK _ ?_;clear hK K))
  rw [z3L hlt,goQ] at hn
  refine zy.retW (.inr rfl) Try.results64 (s':=⟨[(2,.zB),(3,.int k),(4,.zB)],[],28,4⟩) (by refine zk.of' rfl ?_;simp only [wks,reduceIte,Nat.reduceEqDiff,ASt.okB,AV.okB,Nat.reduceLT,implies_true,]) ?_;simp only [zu,zo,zn,simprocAttr,implies_true,amz,tys];rw [hn]
theorem check_t (l:List Ev) (hl:l.length≤100000):zq Try.prog 51 [.p (.seq 9 (l.map evC))] (.tup [.int (goQ ps0 0 l),.bool (goQ ps0 0 l==(l.length:Int))]):=by
 refine zq.of Try.func51 rfl 18 rfl (by decide) (by simp [AV.okB]) ?_
 repeat' (first|refine T.zh fun K hK=>?_|refine T.block ?_|(refine T.reg (by kernel_rfl) fun K' hK'=>?_;simp only [bz];(repeat' (first|(with_reducible refine WL.fin ?_;refine hK' _ ?_;clear hK' K')|((with_reducible refine WL.step fun K2 hK2=>?_);simp only [simprocAttr,implies_true,amz,tys];(repeat' (first|with_reducible (first|(refine hK2 _ ?_;clear hK2 K2)|refine And.intro ?_ ?_|intro hb)|((first|(with_reducible apply zg)|(with_reducible apply zl));case h=>exact CallV.plain (Ent.of Try.func64 (by kernel_rfl) rfl) (follow_ok l hl) (by simp [AV.okB]))))))))|refine T.skip ?_|refine T.exit ?_|refine T.zf rfl ?_|refine T.ze rfl ?_|refine T.cond rfl (fun hc=>?_) (fun hc=>?_)|refine T.ret ?_|simp only [za,z8,reduceIte,Nat.reduceEqDiff]|((repeat ((fail_if_success (refine hK _ ?_));clear hK K));refine hK _ ?_;clear hK K))
 all_goals (refine zy.ret (.inr rfl) Try.results51 ?_;simp only [zu,zo,zn,simprocAttr,implies_true,amz,tys,])
theorem valid_t (l:List Ev) (hl:l.length≤100000):zq Try.prog 40 [.p (.seq 9 (l.map evC))] (.bool (qx l).2):=by
 have he:(goQ ps0 0 l==(l.length:Int))=(qx l).2:=by
  rw [← z4F]
  have h:=(goQ_le l ps0 0).2
  rw [Int.zero_add] at h
  cases hg:goP ps0 l with
  | true=>simpa using h.2 hg
  | false =>
   simp only [beq_eq_false_iff_ne,ne_eq]
   intro e
   rw [h.1 e] at hg
   cases hg
 refine zq.of Try.func40 rfl 11 rfl (by decide) (by simp [AV.okB]) ?_
 repeat' (first|refine T.zh fun K hK=>?_|refine T.block ?_|(refine T.reg (by kernel_rfl) fun K' hK'=>?_;simp only [bz];(repeat' (first|(with_reducible refine WL.fin ?_;refine hK' _ ?_;clear hK' K')|((with_reducible refine WL.step fun K2 hK2=>?_);simp only [simprocAttr,implies_true,amz,tys];(repeat' (first|with_reducible (first|(refine hK2 _ ?_;clear hK2 K2)|refine And.intro ?_ ?_|intro hb)|((first|(with_reducible apply zg)|(with_reducible apply zl));case h=>exact CallV.plain (Ent.of Try.func51 (by kernel_rfl) rfl) (check_t l hl) (by simp [AV.okB]))))))))|refine T.skip ?_|refine T.exit ?_|refine T.zf rfl ?_|refine T.ze rfl ?_|refine T.cond rfl (fun hc=>?_) (fun hc=>?_)|refine T.ret ?_|simp only [za,z8,reduceIte,Nat.reduceEqDiff]|((repeat ((fail_if_success (refine hK _ ?_));clear hK K));refine hK _ ?_;clear hK K))
 all_goals (refine zy.ret (.inr rfl) Try.results40 ?_;simp only [zu,zo,zn,simprocAttr,implies_true,amz,tys,];rw [he])
def EvI (l:List Ev):Prop := ∀ e ∈ l,inI e.g∧inI e.obj∧inI e.off∧(e.kind=14→inI e.k)
theorem z5Y : ∀ (l:List Ev) (s:Ps),goP s l=true → ∀ e ∈ l,z04 e=true
 | [],s,_,e,h=>by cases h
 | x :: r,s,hg,e,h=>by
  rw [goP] at hg
  cases ha:addP s x with
  | none=>rw [ha] at hg;cases hg
  | some t =>
   rw [ha] at hg
   rcases List.mem_cons.1 h with rfl|h
   ·unfold addP at ha
    split at ha
    ·cases ha
    ·rename_i hn
     simp only [z4D,Bool.or_eq_true,Bool.not_eq_true'] at hn
     cases hv:z04 e with
     | true=>rfl
     | false=>exact absurd (.inl (.inl hv)) hn
   ·exact z5Y r t hg e h
theorem validB_I {e:Ev} (h:z04 e=true):inI e.g∧inI e.obj∧inI e.off∧inI e.k:=by
 have h1:=z8e h
 simp only [z04,z2t,List.all_cons,okF,z5x,Bool.and_eq_true,Bool.not_eq_true',Bool.or_eq_false_iff,decide_eq_false_iff_not] at h
 obtain ⟨⟨⟨g1,g2⟩,_⟩,⟨_,_,⟨k1,k2⟩,_⟩,_⟩:=h
 exact ⟨⟨by omega,by omega⟩,h1.o,h1.f,by omega,by omega⟩
theorem evI_of {l:List Ev} (h:(qx l).2=true):EvI l:=fun e he=>by
 rw [← z4F] at h
 obtain ⟨h1,h2,h3,h4⟩:=validB_I (z5Y l ps0 h e he)
 exact ⟨h1,h2,h3,fun _=>h4⟩
def cnM (l:List Ev):Nat→Nat→Bool:=fC (z0v l l.length)
def rgF (p:Nat→Bool) (k:Nat):List Nat:=(List.range k).filter p
theorem z7M (p:Nat→Bool):rgF p 0 = []:=rfl
theorem z0T (p:Nat→Bool) (k:Nat):rgF p (k+1)=rgF p k++if p k then [k] else []:=by
 unfold rgF
 rw [List.range_succ,List.filter_append];simp only [List.filter_cons,List.filter_nil]
theorem z3d (p:Nat→Bool) (k:Nat):(rgF p k).length≤k:=by
 have:=List.length_filter_le p (List.range k)
 rwa [List.length_range] at this
def coneB (l:List Ev) (j:Nat):List Nat:=rgF (cnM l j) (j+1)
def coneO (l:List Ev) (j:Int):List Nat:=if !(decide (j<0)) && !(decide ((l.length:Int)≤j))&&(qx l).2 then coneB l j.toNat else []
theorem nilI:qw [] = []:=rfl
def raC (x:Nat × Nat):List PV := [.val (.int .i64 (x.1:Int)),.val (.int .i64 (x.2:Int))]
def z1z (l:List Ev) (j:Int):List Nat:=if (qx l).2 && !(decide (j<0)) && !(decide ((l.length:Int)≤j)) then rgF (hbB l j.toNat) j.toNat ++ [j.toNat] else []
def rowE (r:List Ed):List (List PV):=r.map edC
theorem rowE_at {r:List Ed} {k:Nat} {x:Ed} (h:r[k]? = some x):(rowE r)[k]? = some (edC x):=by
 unfold rowE;rw [List.getElem?_map,h];rfl
theorem z95 (r:List Nat) (hr:r.length≤1000000000000):zq Try.prog 25 [.p (.seq 1 (qw r)),.p (.seq 1 (qw r))] (.bool true):=by
 have hlen:(qw r).length=r.length:=by simp [qw]
 refine zq.of Try.func25 rfl 26 rfl (by decide) (by simp [AV.okB]) ?_
 repeat' (first|refine T.zh fun K hK=>?_|refine T.block ?_|(refine T.reg (by kernel_rfl) fun K' hK'=>?_;simp only [bz];(repeat' (first|(with_reducible refine WL.fin ?_;refine hK' _ ?_;clear hK' K')|((with_reducible refine WL.step fun K2 hK2=>?_);simp only [simprocAttr,implies_true,amz,abin,tys,hlen,bne_self_eq_false];(repeat' with_reducible (first|(refine hK2 _ ?_;clear hK2 K2)|refine And.intro ?_ ?_|intro hb))))))|refine T.skip ?_|refine T.exit ?_|refine T.zf rfl ?_|refine T.ze rfl ?_|refine T.cond rfl (fun hc=>?_) (fun hc=>?_)|refine T.ret ?_|simp only [za,z8,reduceIte,Nat.reduceEqDiff]|((repeat ((fail_if_success (refine hK _ ?_));clear hK K));refine hK _ ?_;clear hK K))
 refine T.qc (fun k:Nat=>⟨[(0,.p (.seq 1 (qw r))),(1,.p (.seq 1 (qw r))),(5,.int k)],[],26,0⟩) (fun k=>k≤r.length) (fun k=>r.length-k) 0 (Nat.zero_le _) (by refine zk.of' rfl ?_;simp only [wks,reduceIte,Nat.reduceEqDiff,ASt.okB,AV.okB,Nat.reduceLT,implies_true,Int.natCast_zero]) ?_
 intro k hk KL hKL
 by_cases hkr:k<r.length
 ·have hd:decide ((k:Int)<(r.length:Int))=true:=by simpa using hkr
  obtain ⟨x,hx⟩:=zT hkr
  have m1:=z3v hx
  repeat' (first|refine T.zh fun K hK=>?_|refine T.block ?_|(refine T.reg (by kernel_rfl) fun K' hK'=>?_;simp only [bz];(repeat' (first|(with_reducible refine WL.fin ?_;refine hK' _ ?_;clear hK' K')|((with_reducible refine WL.step fun K2 hK2=>?_);simp only [simprocAttr,implies_true,amz,abin,tys,hlen,hd];(repeat' with_reducible (first|(refine hK2 _ ?_;clear hK2 K2)|refine And.intro ?_ ?_|intro hb))))))|refine T.skip ?_|refine T.exit ?_|refine T.zf rfl ?_|refine T.ze rfl ?_|refine T.cond rfl (fun hc=>?_) (fun hc=>?_)|refine T.ret ?_|simp only [za,z8,reduceIte,Nat.reduceEqDiff]|((repeat ((fail_if_success (refine hK _ ?_));clear hK K));refine hK _ ?_;clear hK K))
  refine T.drw 8 (by kernel_rfl) (by kernel_rfl) fun K' hK'=>?_;simp only [List.map_cons,List.map_nil];(repeat' (first|(with_reducible refine WL.fin ?_;refine hK' _ ?_;clear hK' K')|(with_reducible refine WD.fin ?_)|((with_reducible first|refine WL.step fun K2 hK2=>?_|refine WD.step fun K2 hK2=>?_);simp only [simprocAttr,implies_true,amz,abin,tys,hlen,m1,edC,raC,aeqF,scEq,Bool.and_self,bne_self_eq_false,beq_self_eq_true];(repeat' with_reducible (first|(refine hK2 _ ?_;clear hK2 K2)|refine And.intro ?_ ?_|intro hb)))));all_goals ((try simp only [za,z8,reduceIte,Nat.reduceEqDiff]);(try ((repeat ((fail_if_success (refine hK _ ?_));clear hK K));refine hK _ ?_;clear hK K)))
  all_goals repeat' (first|refine T.zh fun K hK=>?_|refine T.block ?_|(refine T.reg (by kernel_rfl) fun K' hK'=>?_;simp only [bz];(repeat' (first|(with_reducible refine WL.fin ?_;refine hK' _ ?_;clear hK' K')|((with_reducible refine WL.step fun K2 hK2=>?_);simp only [simprocAttr,implies_true,amz,abin,tys,hlen];(repeat' with_reducible (first|(refine hK2 _ ?_;clear hK2 K2)|refine And.intro ?_ ?_|intro hb))))))|refine T.skip ?_|refine T.exit ?_|refine T.zf rfl ?_|refine T.ze rfl ?_|refine T.cond rfl (fun hc=>?_) (fun hc=>?_)|refine T.ret ?_|simp only [za,z8,reduceIte,Nat.reduceEqDiff]|((repeat ((fail_if_success (refine hK _ ?_));clear hK K));refine hK _ ?_;clear hK K))
  refine hKL _ (k+1) ?_ (by omega) (by omega)
  refine zk.of' rfl ?_;simp only [wks,reduceIte,Nat.reduceEqDiff,ASt.okB,AV.okB,Nat.reduceLT,implies_true,zm (show k<1152921504606846976 by omega)]
 ·have hd:decide ((k:Int)<(r.length:Int))=false:=by simpa using hkr
  repeat' (first|refine T.zh fun K hK=>?_|refine T.block ?_|(refine T.reg (by kernel_rfl) fun K' hK'=>?_;simp only [bz];(repeat' (first|(with_reducible refine WL.fin ?_;refine hK' _ ?_;clear hK' K')|((with_reducible refine WL.step fun K2 hK2=>?_);simp only [simprocAttr,implies_true,amz,abin,tys,hlen,hd];(repeat' with_reducible (first|(refine hK2 _ ?_;clear hK2 K2)|refine And.intro ?_ ?_|intro hb))))))|refine T.skip ?_|refine T.exit ?_|refine T.zf rfl ?_|refine T.ze rfl ?_|refine T.cond rfl (fun hc=>?_) (fun hc=>?_)|refine T.ret ?_|simp only [za,z8,reduceIte,Nat.reduceEqDiff]|((repeat ((fail_if_success (refine hK _ ?_));clear hK K));refine hK _ ?_;clear hK K))
  refine zy.ret (.inr rfl) Try.results25 ?_;simp only [zu,zo,zn,simprocAttr,implies_true,amz,abin,tys,]
def kdL (l:List Ev) (i j:Nat):Int:=match l[i]?,l[j]? with
 | some x,some y=>if z2y l x y i j then 0 else y.kind
 | _,_ => 0
theorem kdL_eq {l:List Ev} {i j:Nat} {x y:Ev} (hx:l[i]? = some x) (hy:l[j]? = some y):kdL l i j=if z2y l x y i j then 0 else y.kind:=by simp [kdL,hx,hy]
def edJ (l:List Ev) (j:Nat):Nat→List Ed
 | 0 => []
 | k+1=>edJ l j k++if qi l k j then [⟨k,j,kdL l k j⟩] else []
def edU (l:List Ev):Nat→List Ed
 | 0 => []
 | j+1=>edU l j++edJ l j j
theorem edJ_len (l:List Ev) (j:Nat) : ∀ k,(edJ l j k).length≤k
 | 0=>Nat.le_refl _
 | k+1=>by
  have:=edJ_len l j k
  rw [edJ,List.length_append]
  split <;> simp <;> omega
theorem edU_len (l:List Ev) (m:Nat) : ∀ j,j≤m→(edU l j).length≤j*m
 | 0,_=>by simp [edU]
 | j+1,h=>by
  have h1:=edU_len l m j (by omega)
  have h2:=edJ_len l j j
  rw [edU,List.length_append,Nat.add_mul]
  omega
theorem z7j (r:List Ed):(rowE r).length=r.length:=by simp [rowE]
theorem rowE_snoc (r:List Ed) (x:Ed):rowE r ++ [[PV.val (.int .i64 x.f),.val (.int .i64 x.t),.val (.int .i64 x.k)]]=rowE (r ++ [x]):=by simp [rowE,edC]
theorem nilE:rowE [] = []:=rfl
def z3c (l:List Ev):List Ed:=if (qx l).2 then edU l l.length else []
def errE (l:List Ev):Int:=if (qx l).2 then 0 else 1
end Go.Proofs.Ytdlgoofjechocaa
namespace Go.Proofs.Ytdlgoofjechocaa
open Go.RowKit Go.Sort
set_option linter.unusedSectionVars false
theorem z4H {l:List Ev} {p:Ev→Bool} : ∀ {j i:Nat},z03 l p j=some i↔i<j∧(l[i]?).any p=true ∧ ∀ k,i<k→k<j→(l[k]?).any p=false
 | 0,i=>by simp [z03]
 | j+1,i=>by
  rw [z03]
  cases h:(l[j]?).any p with
  | true =>
   simp only [if_true,Option.some.injEq]
   constructor
   ·rintro rfl;exact ⟨Nat.lt_succ_self _,h,fun k h1 h2=>by omega⟩
   ·rintro ⟨h1,h2,h3⟩
    by_cases e:i=j
    ·exact e.symm
    ·have:=h3 j (by omega) (Nat.lt_succ_self _);rw [h] at this;cases this
  | false =>
   simp only [Bool.false_eq_true,if_false]
   rw [z4H]
   constructor
   ·rintro ⟨h1,h2,h3⟩
    refine ⟨by omega,h2,fun k h4 h5=>?_⟩
    by_cases e:k=j
    ·rw [e];exact h
    ·exact h3 k h4 (by omega)
   ·rintro ⟨h1,h2,h3⟩
    have:i ≠ j:=fun e=>by rw [e,h] at h2;cases h2
    exact ⟨by omega,h2,fun k h4 h5=>h3 k h4 (by omega)⟩
theorem z6U {l:List Ev} {p:Ev→Bool} : ∀ {j:Nat},z03 l p j=none ↔ ∀ k,k<j→(l[k]?).any p=false
 | 0=>by simp [z03]
 | j+1=>by
  rw [z03]
  cases h:(l[j]?).any p with
  | true =>
   simp only [if_true]
   constructor
   ·intro h1;cases h1
   ·intro h1;have:=h1 j (Nat.lt_succ_self _);rw [h] at this;cases this
  | false =>
   simp only [Bool.false_eq_true,if_false]
   rw [z6U]
   constructor
   ·intro h1 k hk
    by_cases e:k=j
    ·rw [e];exact h
    ·exact h1 k (by omega)
   ·intro h1 k hk;exact h1 k (by omega)
theorem z99 {l:List Ev} {p:Ev→Bool} {i j:Nat} : ((l.take j).drop (i+1)).any p=false ↔ ∀ k,i<k→k<j→(l[k]?).any p=false:=by
 rw [List.any_eq_false]
 constructor
 ·intro h k h1 h2
  cases hk:l[k]? with
  | none=>rfl
  | some z =>
   have hm:z ∈ (l.take j).drop (i+1):=List.mem_iff_getElem?.2 ⟨k-(i+1),by rw [List.getElem?_drop,show i+1+(k-(i+1))=k by omega,List.getElem?_take,if_pos h2,hk]⟩
   have:=h z hm
   simpa using this
 ·intro h z hz
  obtain ⟨q,hq⟩:=List.mem_iff_getElem?.1 hz
  rw [List.getElem?_drop,List.getElem?_take] at hq
  split at hq
  ·rename_i hlt
   have:=h (i+1+q) (by omega) hlt
   rw [hq] at this
   simpa using this
  ·cases hq
theorem take_any {l:List Ev} {p:Ev→Bool} {j:Nat} : (l.take j).any p=false ↔ ∀ k,k<j→(l[k]?).any p=false:=by
 rw [List.any_eq_false]
 constructor
 ·intro h k h2
  cases hk:l[k]? with
  | none=>rfl
  | some z =>
   have hm:z ∈ l.take j:=List.mem_iff_getElem?.2 ⟨k,by rw [List.getElem?_take,if_pos h2,hk]⟩
   have:=h z hm
   simpa using this
 ·intro h z hz
  obtain ⟨q,hq⟩:=List.mem_iff_getElem?.1 hz
  rw [List.getElem?_take] at hq
  split at hq
  ·rename_i hlt
   have:=h q hlt
   rw [hq] at this
   simpa using this
  ·cases hq
section
variable {l:List Ev} {i j:Nat} {x y:Ev} (hx:l[i]? = some x) (hy:l[j]? = some y) (hij:i<j)
include hx hij
theorem z8n:z03 l (fun d=>d.g==y.g) j=some i↔z2y l x y i j=true:=by
 rw [z4H,z2y,Bool.and_eq_true,Bool.not_eq_true',Bool.not_eq_true',hx]
 simp only [Option.any_some,beq_iff_eq,bne_eq_false_iff_eq,hij,true_and]
 constructor
 ·rintro ⟨h1,h2⟩
  refine ⟨h1,z99.2 fun k h3 h4=>?_⟩
  rw [h1];exact h2 k h3 h4
 ·rintro ⟨h1,h2⟩
  refine ⟨h1,fun k h3 h4=>?_⟩
  rw [← h1];exact z99.1 h2 k h3 h4
theorem lastW_iff:z03 l (wrAt y.obj y.off) j=some i↔wrAt y.obj y.off x=true∧z7U l y i j=true:=by
 rw [z4H,z7U,Bool.not_eq_true',hx]
 simp only [Option.any_some,hij,true_and]
 have:z0f y=wrAt y.obj y.off:=rfl
 rw [this,z99]
theorem relsW_iff (k:Int):(⟨i,j,k⟩ : Ed) ∈ z2N l y j↔k=y.kind∧rdK y.kind=true∧wrAt y.obj y.off x=true∧z7U l y i j=true:=by
 rw [← lastW_iff hx hij]
 unfold z2N
 cases h:z03 l (wrAt y.obj y.off) j with
 | none=>simp
 | some a =>
  simp only [Option.some.injEq]
  split
  ·rename_i hr
   rw [List.mem_singleton]
   simp only [Ed.mk.injEq,Int.natCast_inj,true_and]
   constructor
   ·rintro ⟨h1,h2⟩;exact ⟨h2,hr,h1.symm⟩
   ·rintro ⟨h1,_,h2⟩;exact ⟨h2.symm,h1⟩
  ·rename_i hr
   simp [hr]
theorem relsI_iff (k:Int):(⟨i,j,k⟩ : Ed) ∈ z1c l y j (atL l y.obj y.off j)↔k=y.kind∧z4r y.obj y.off x=true∧z2U x y=true:=by
 unfold z1c atL
 rw [List.mem_map]
 constructor
 ·rintro ⟨a,ha,he⟩
  simp only [Ed.mk.injEq,Int.natCast_inj,true_and] at he
  obtain ⟨rfl,rfl⟩:=he
  obtain ⟨h1,h2⟩:=List.mem_filter.1 ha
  obtain ⟨_,h3⟩:=List.mem_filter.1 h1
  rw [hx,Option.any_some] at h2 h3
  exact ⟨rfl,h3,h2⟩
 ·rintro ⟨rfl,h1,h2⟩
  exact ⟨i,List.mem_filter.2 ⟨List.mem_filter.2 ⟨List.mem_range.2 hij,by rw [hx];exact h1⟩,by rw [hx];exact h2⟩,rfl⟩
include hy
theorem relsA_iff (hv:(qx l).2=true) (k:Int):(⟨i,j,k⟩ : Ed) ∈ z3R l y j↔(k=0∧z2y l x y i j=true)∨(k=y.kind∧z4Z l x y j=true):=by
 have hfirst:z4N l y j=true↔z03 l (fun d=>d.g==y.g) j=none:=by
  rw [z6U,z4N,Bool.not_eq_true',take_any]
 unfold z3R
 cases h:z03 l (fun d=>d.g==y.g) j with
 | some a =>
  have hnf:z4N l y j=false:=by
   cases hf:z4N l y j with
   | false=>rfl
   | true=>rw [hfirst.1 hf] at h;cases h
  simp only [z4Z,hnf,Bool.and_false,Bool.false_eq_true,and_false,or_false]
  rw [← z8n hx hij,h,List.mem_singleton]
  simp only [Ed.mk.injEq,Int.natCast_inj,true_and,Option.some.injEq]
  constructor
  ·rintro ⟨h1,h2⟩;exact ⟨h2,h1.symm⟩
  ·rintro ⟨h1,h2⟩;exact ⟨h2.symm,h1⟩
 | none =>
  have hf:=hfirst.2 h
  have hnp:z2y l x y i j=false:=by
   cases hp:z2y l x y i j with
   | false=>rfl
   | true=>rw [← z8n hx hij,h] at hp;cases hp
  simp only [hnp,Bool.false_eq_true,and_false,false_or,z4Z,hf,Bool.and_true]
  have hs:z03 l (z0o y.g) j=some i↔((x.kind==14)&&(x.k==y.g))=true:=by
   rw [z4H,hx]
   simp only [Option.any_some,hij,true_and]
   constructor
   ·rintro ⟨h1,_⟩;exact h1
   ·intro h1
    refine ⟨h1,fun q h2 h3=>?_⟩
    cases hz:l[q]? with
    | none=>rfl
    | some z =>
     rw [Option.any_some]
     cases hb:z0o y.g z with
     | false=>rfl
     | true =>
      simp only [z0o,Bool.and_eq_true,beq_iff_eq] at h1 hb
      exact absurd (h1.2.trans hb.2.symm) (starts_ne hv h2 hx hz h1.1 hb.1)
  rw [← hs]
  cases h2:z03 l (z0o y.g) j with
  | none=>simp
  | some a =>
   simp only [List.mem_singleton,Ed.mk.injEq,Int.natCast_inj,true_and,Option.some.injEq]
   constructor
   ·rintro ⟨h1,h2⟩;exact ⟨h2,h1.symm⟩
   ·rintro ⟨h1,h2⟩;exact ⟨h2.symm,h1⟩
theorem knd_iff (hv:(qx l).2=true):((z4r y.obj y.off x=true∧z2U x y=true)∨(rdK y.kind=true∧wrAt y.obj y.off x=true∧z7U l y i j=true))↔((x.obj != y.obj)||(x.off != y.off))=false∧kndB l x y i j=true:=by
 have hn:x.kind=17→y.kind=16→x.obj=y.obj→x.n=y.n:=fun h1 h2 h3=>caps_eq hv hij hx hy (by simp [qD,h1]) (by simp [qD,h2]) h3
 simp only [Bool.or_eq_false_iff,bne_eq_false_iff_eq]
 by_cases ho:x.obj=y.obj
 ·by_cases hf:x.off=y.off
  ·simp only [z4r,wrAt,ho,hf,beq_self_eq_true,Bool.and_true,true_and,pubK,z2U,z6h,z6E,rdK,kndB]
   by_cases k15:x.kind=15
   ·simp [k15,aftB,Bool.beq_comm]
   by_cases k17:x.kind=17
   ·simp [k17,aftB]
    intro h1
    rw [hn k17 h1 ho]
   by_cases k19:x.kind=19
   ·simp [k19,aftB]
   by_cases k7:x.kind=7
   ·simp [k7,aftB]
   by_cases k9:x.kind=9
   ·simp [k9,aftB]
   by_cases k10:x.kind=10
   ·simp [k10,aftB]
   by_cases k12:x.kind=12
   ·simp [k12,aftB]
   by_cases k4:x.kind=4
   ·simp [k4,aftB]
   by_cases k5:x.kind=5
   ·simp [k5,aftB]
   simp [k15,k17,k19,k7,k9,k10,k12,k4,k5,aftB]
  ·simp [z4r,wrAt,hf]
 ·simp [z4r,wrAt,ho]
theorem z1H (hv:(qx l).2=true) (k:Int):(⟨i,j,k⟩ : Ed) ∈ z4s l y j↔(k=0∧z2y l x y i j=true)∨(k=y.kind∧(z4Z l x y j=true∨(((x.obj != y.obj)||(x.off != y.off))=false∧kndB l x y i j=true))):=by
 unfold z4s
 rw [List.mem_append,List.mem_append,relsA_iff hx hy hij hv,relsI_iff hx hij,relsW_iff hx hij,← knd_iff hx hy hij hv]
 constructor
 ·rintro (((h|h)|h)|h)
  ·exact .inl h
  ·exact .inr ⟨h.1,.inl h.2⟩
  ·exact .inr ⟨h.1,.inr (.inl h.2)⟩
  ·exact .inr ⟨h.1,.inr (.inr h.2)⟩
 ·rintro (h|⟨h1,h2|h2|h2⟩)
  ·exact .inl (.inl (.inl h))
  ·exact .inl (.inl (.inr ⟨h1,h2⟩))
  ·exact .inl (.inr ⟨h1,h2⟩)
  ·exact .inr ⟨h1,h2⟩
omit hij in
theorem z9H:immB l x y i j=true↔z2y l x y i j=true∨(z4Z l x y j=true∨(((x.obj != y.obj)||(x.off != y.off))=false∧kndB l x y i j=true)):=by
 unfold immB
 cases h1:z2y l x y i j with
 | true=>simp
 | false =>
  cases h2:z4Z l x y j with
  | true=>simp
  | false =>
   simp only [Bool.or_self,Bool.false_eq_true,if_false,false_or]
   split
   ·rename_i h3;simp [h3]
   ·rename_i h3
    have:((x.obj != y.obj)||(x.off != y.off))=false:=by simpa using h3
    simp [this]
end
theorem z0n {l:List Ev} : ∀ {n:Nat} {x:Ed},x ∈ z0v l n ↔ ∃ j e,j<n∧l[j]? = some e∧x ∈ z4s l e j
 | 0,x=>by simp [z0v]
 | n+1,x=>by
  rw [z0v,List.mem_append,z0n]
  constructor
  ·rintro (⟨j,e,h1,h2,h3⟩|h)
   ·exact ⟨j,e,by omega,h2,h3⟩
   ·cases hn:l[n]? with
    | none=>rw [hn] at h;cases h
    | some e=>rw [hn] at h;exact ⟨n,e,Nat.lt_succ_self _,hn,h⟩
  ·rintro ⟨j,e,h1,h2,h3⟩
   by_cases hj:j=n
   ·subst hj;right;rw [h2];exact h3
   ·exact .inl ⟨j,e,by omega,h2,h3⟩
set_option linter.unusedSectionVars false
theorem z4U {l:List Ev} {m b:Nat} : hbB l m b=true ↔ ∃ i,i<m∧qi l i m=true∧(b=i∨(b<i∧hbB l i b=true)):=by
 rw [z8x,colB,List.any_eq_true]
 simp only [List.mem_range,Nat.zero_le,decide_true,Bool.true_and,Bool.and_eq_true,Bool.or_eq_true,beq_iff_eq,decide_eq_true_eq]
theorem z2u {l:List Ev} {j:Nat} {e:Ev} (hy:l[j]? = some e) {x:Ed} (h:x ∈ z4s l e j) : ∃ i:Nat,i<j∧x=⟨i,j,x.k⟩:=by
 have hm:x ∈ z0v l (j+1):=z0n.2 ⟨j,e,Nat.lt_succ_self _,hy,h⟩
 unfold z4s at h
 rcases List.mem_append.1 h with h|h
 ·rcases List.mem_append.1 h with h|h
  ·unfold z3R at h
   split at h
   ·rename_i i hi
    rw [List.mem_singleton.1 h]
    exact ⟨i,(z5G hi).1,rfl⟩
   ·split at h
    ·rename_i i hi
     rw [List.mem_singleton.1 h]
     exact ⟨i,(z5G hi).1,rfl⟩
    ·cases h
  ·unfold z1c at h
   obtain ⟨i,hi,rfl⟩:=List.mem_map.1 h
   exact ⟨i,(atL_mem (List.mem_filter.1 hi).1).1,rfl⟩
 ·unfold z2N at h
  split at h
  ·rename_i i hi
   split at h
   ·rw [List.mem_singleton.1 h]
    exact ⟨i,(z5G hi).1,rfl⟩
   ·cases h
  ·cases h
theorem z5V {l:List Ev} (hv:(qx l).2=true) {i j:Nat} {e:Ev} (hy:l[j]? = some e) (hij:i<j):qi l i j=true ↔ ∃ k,(⟨i,j,k⟩ : Ed) ∈ z4s l e j:=by
 have hjl:=(List.getElem?_eq_some_iff.1 hy).1
 obtain ⟨x,hx⟩:=zT (show i<l.length by omega)
 rw [z6v hx hy,z9H hx hy]
 constructor
 ·rintro (h|h)
  ·exact ⟨0,(z1H hx hy hij hv 0).2 (.inl ⟨rfl,h⟩)⟩
  ·exact ⟨e.kind,(z1H hx hy hij hv e.kind).2 (.inr ⟨rfl,h⟩)⟩
 ·rintro ⟨k,hk⟩
  rcases (z1H hx hy hij hv k).1 hk with h|h
  ·exact .inl h.2
  ·exact .inr h.2
theorem z9S {m:Nat} : ∀ (S:List Ed) (f:Nat→Nat→Bool),(∀ x ∈ S,∃ i:Nat,i<m∧x=⟨i,m,x.k⟩) → ∀ a b,S.foldl addE f a b=if a=m then f m b||S.any (fun x=>decide (b≤x.f.toNat)&&f x.f.toNat b) else f a b
 | [],f,_,a,b=>by
  simp only [List.foldl_nil,List.any_nil,Bool.or_false]
  split
  ·rename_i h;rw [h]
  ·rfl
 | x :: S,f,h,a,b=>by
  obtain ⟨i,hi,hxe⟩:=h x (by simp)
  have hf:x.f.toNat=i:=by rw [hxe];simp
  have ht:x.t.toNat=m:=by rw [hxe];simp
  have hadd : ∀ c,c ≠ m→addE f x c=f c:=fun c hc=>by funext d;simp only [addE];rw [ht,if_neg hc]
  have haddm : ∀ d,addE f x m d=(f m d||(decide (d≤i)&&f i d)):=fun d=>by simp only [addE];rw [ht,if_pos rfl,hf]
  rw [List.foldl_cons,z9S S (addE f x) (fun y hy=>h y (by simp [hy])) a b]
  split
  ·rw [haddm,List.any_cons,hf,Bool.or_assoc]
   congr 2
   apply Bool.eq_iff_iff.2
   rw [List.any_eq_true,List.any_eq_true]
   have : ∀ y ∈ S,addE f x y.f.toNat b=f y.f.toNat b:=fun y hy=>by
    obtain ⟨q,hq,hye⟩:=h y (by simp [hy])
    rw [hadd _ (by rw [hye];simp;omega)]
   constructor
   ·rintro ⟨y,hy,h2⟩;exact ⟨y,hy,by rw [← this y hy];exact h2⟩
   ·rintro ⟨y,hy,h2⟩;exact ⟨y,hy,by rw [this y hy];exact h2⟩
  ·rename_i hne;rw [hadd a hne]
theorem fC_eq {l:List Ev} (hv:(qx l).2=true) : ∀ m,m≤l.length → ∀ a b,b≤a→fC (z0v l m) a b=((b==a)||(decide (a<m)&&hbB l a b))
 | 0,_,a,b,_=>by simp [z0v,fC,idM]
 | m+1,hm,a,b,hba=>by
  obtain ⟨e,hy⟩:=zT (show m<l.length by omega)
  have ih:=fC_eq hv m (by omega)
  rw [z3D hy,fC,List.foldl_append]
  change (z4s l e m).foldl addE (fC (z0v l m)) a b=_
  rw [z9S _ _ (fun x hx=>z2u hy hx)]
  split
  ·rename_i ham
   subst ham
   rw [ih a b hba,show decide (a<a)=false by simp,Bool.false_and,Bool.or_false,show decide (a<a+1)=true by simp,Bool.true_and]
   congr 1
   apply Bool.eq_iff_iff.2
   rw [List.any_eq_true,z4U]
   constructor
   ·rintro ⟨x,hx,h⟩
    obtain ⟨i,hi,hxe⟩:=z2u hy hx
    rw [hxe] at h hx
    simp only [Int.toNat_natCast,Bool.and_eq_true,decide_eq_true_eq] at h
    obtain ⟨h1,h2⟩:=h
    refine ⟨i,hi,(z5V hv hy hi).2 ⟨_,hx⟩,?_⟩
    rw [ih i b h1] at h2
    simp only [Bool.or_eq_true,beq_iff_eq,Bool.and_eq_true,decide_eq_true_eq] at h2
    rcases h2 with h2|⟨_,h2⟩
    ·exact .inl h2
    ·exact .inr ⟨z5m l i b h2,h2⟩
   ·rintro ⟨i,hi,him,h⟩
    obtain ⟨k,hk⟩:=(z5V hv hy hi).1 him
    refine ⟨_,hk,?_⟩
    have hbi:b≤i:=by rcases h with h|h <;> omega
    simp only [Int.toNat_natCast,Bool.and_eq_true,decide_eq_true_eq]
    refine ⟨hbi,?_⟩
    rw [ih i b hbi]
    simp only [Bool.or_eq_true,beq_iff_eq,Bool.and_eq_true,decide_eq_true_eq]
    rcases h with h|h
    ·exact .inl h
    ·exact .inr ⟨hi,h.2⟩
  ·rename_i ham
   rw [ih a b hba]
   congr 2
   simp;omega
theorem cnM_eq {l:List Ev} (hv:(qx l).2=true) {a b:Nat} (ha:a<l.length) (hb:b≤a):fC (z0v l l.length) a b=((b==a)||hbB l a b):=by
 rw [fC_eq hv _ (Nat.le_refl _) a b hb]
 simp [ha]
def cmpE (x y:Ed):Int:=if x.t ≠ y.t then x.t-y.t else if x.f ≠ y.f then x.f-y.f else x.k-y.k
def eqE (x y:Ed):Bool:=(x.f==y.f)&&(x.t==y.t)
def cmpF (p:Ed):List Ed→List Ed
 | [] => []
 | y :: r=>if eqE y p then cmpF y r else y :: cmpF y r
def z3S:List Ed→List Ed
 | [] => []
 | x :: r=>x :: cmpF x r
def kltE (x y:Ed):Prop:=x.t<y.t∨(x.t=y.t∧x.f<y.f)
theorem z0Z (x y:Ed):eqE x y=true↔x.f=y.f∧x.t=y.t:=by simp [eqE]
theorem z6r {x y:Ed} : ¬ cmpE y x<0↔kltE x y∨(x.t=y.t∧x.f=y.f∧x.k≤y.k):=by
 unfold cmpE kltE
 split
 ·omega
 ·split
  ·omega
  ·omega
theorem zah {A B:List Ed} (hA:A.Pairwise kltE) (hB:B.Pairwise kltE) (h : ∀ x,x ∈ A↔x ∈ B):A=B:=by
 induction A generalizing B with
 | nil =>
  cases B with
  | nil=>rfl
  | cons b r=>have:=(h b).2 (by simp);cases this
 | cons a A ih =>
  cases B with
  | nil=>have:=(h a).1 (by simp);cases this
  | cons b B =>
   obtain ⟨a1,a2⟩:=List.pairwise_cons.1 hA
   obtain ⟨b1,b2⟩:=List.pairwise_cons.1 hB
   have hab:a=b:=by
    rcases List.mem_cons.1 ((h a).1 (by simp)) with e|e
    ·exact e
    ·rcases List.mem_cons.1 ((h b).2 (by simp)) with e'|e'
     ·exact e'.symm
     ·have h1:=b1 a e
      have h2:=a1 b e'
      unfold kltE at h1 h2
      omega
   subst hab
   congr 1
   refine ih a2 b2 fun x=>?_
   have hne : ∀ y,kltE a y→y ≠ a:=fun y hy e=>by subst e;unfold kltE at hy;omega
   constructor
   ·intro hx
    rcases List.mem_cons.1 ((h x).1 (by simp [hx])) with e|e
    ·exact absurd e (hne x (a1 x hx))
    ·exact e
   ·intro hx
    rcases List.mem_cons.1 ((h x).2 (by simp [hx])) with e|e
    ·exact absurd e (hne x (b1 x hx))
    ·exact e
theorem z7B : ∀ {r:List Ed} {p:Ed},(p :: r).Pairwise (fun x y => ¬ cmpE y x<0) → ∀ x,x ∈ cmpF p r↔x ∈ r∧eqE x p=false ∧ ∀ z ∈ r,eqE z x=true→x.k≤z.k
 | [],p,_,x=>by simp [cmpF]
 | y :: r,p,h,x=>by
  obtain ⟨h1,h2⟩:=List.pairwise_cons.1 h
  obtain ⟨h3,h4⟩:=List.pairwise_cons.1 h2
  have ih:=z7B h2 x
  have hpy:=z6r.1 (h1 y (by simp))
  have hne : ∀ {a b:Ed},eqE a b=false ↔ ¬ (a.f=b.f∧a.t=b.t):=fun {a b}=>by rw [← z0Z];simp
  rw [cmpF]
  split
  ·rename_i he
   have he':=(z0Z _ _).1 he
   rw [ih]
   constructor
   ·rintro ⟨q1,q2,q3⟩
    have q2':=hne.1 q2
    refine ⟨by simp [q1],hne.2 (by omega),fun z hz hzx=>?_⟩
    rcases List.mem_cons.1 hz with rfl|hz
    ·have:=(z0Z _ _).1 hzx;omega
    ·exact q3 z hz hzx
   ·rintro ⟨q1,q2,q3⟩
    have q2':=hne.1 q2
    rcases List.mem_cons.1 q1 with rfl|q1
    ·omega
    ·exact ⟨q1,hne.2 (by omega),fun z hz=>q3 z (by simp [hz])⟩
  ·rename_i he
   have he' : ¬ (y.f=p.f∧y.t=p.t):=fun h=>he ((z0Z _ _).2 h)
   rw [List.mem_cons,ih]
   have hk:kltE p y:=by rcases hpy with h|h;exact h;omega
   constructor
   ·rintro (rfl|⟨q1,q2,q3⟩)
    ·refine ⟨by simp,hne.2 he',fun z hz hzx=>?_⟩
     have hzx':=(z0Z _ _).1 hzx
     rcases List.mem_cons.1 hz with rfl|hz
     ·exact Int.le_refl _
     ·have:=z6r.1 (h3 z hz);unfold kltE at this;omega
    ·have hyx:=z6r.1 (h3 x q1)
     have q2':=hne.1 q2
     unfold kltE at hk hyx
     refine ⟨by simp [q1],hne.2 (by omega),fun z hz hzx=>?_⟩
     have hzx':=(z0Z _ _).1 hzx
     rcases List.mem_cons.1 hz with rfl|hz
     ·omega
     ·exact q3 z hz hzx
   ·rintro ⟨q1,q2,q3⟩
    rcases List.mem_cons.1 q1 with rfl|q1
    ·exact .inl rfl
    ·by_cases hxy:x.f=y.f∧x.t=y.t
     ·left
      have h5:=q3 y (by simp) ((z0Z _ _).2 ⟨hxy.1.symm,hxy.2.symm⟩)
      have h6:=z6r.1 (h3 x q1)
      unfold kltE at h6
      obtain ⟨xf,xt,xk⟩:=x
      obtain ⟨yf,yt,yk⟩:=y
      simp only at h5 h6 hxy
      have:xk=yk:=by omega
      simp [hxy.1,hxy.2,this]
     ·exact .inr ⟨q1,hne.2 hxy,fun z hz=>q3 z (by simp [hz])⟩
theorem z6p : ∀ {r:List Ed} {p:Ed},(p :: r).Pairwise (fun x y => ¬ cmpE y x<0)→(p :: cmpF p r).Pairwise kltE
 | [],p,_=>by simp [cmpF]
 | y :: r,p,h=>by
  obtain ⟨h1,h2⟩:=List.pairwise_cons.1 h
  have ih:=z6p h2
  refine List.pairwise_cons.2 ⟨fun x hx=>?_,?_⟩
  ·obtain ⟨q1,q2,_⟩:=(z7B h x).1 hx
   have q2' : ¬ (x.f=p.f∧x.t=p.t):=fun e=>by rw [(z0Z _ _).2 e] at q2;cases q2
   rcases z6r.1 (h1 x q1) with h3|h3
   ·exact h3
   ·omega
  ·rw [cmpF]
   split
   ·exact (List.pairwise_cons.1 ih).2
   ·exact ih
theorem cmpct_mem {S:List Ed} (h:S.Pairwise (fun x y => ¬ cmpE y x<0)) (x:Ed):x ∈ z3S S↔x ∈ S ∧ ∀ z ∈ S,eqE z x=true→x.k≤z.k:=by
 cases S with
 | nil=>simp [z3S]
 | cons p r =>
  rw [z3S,List.mem_cons,z7B h]
  obtain ⟨h1,h2⟩:=List.pairwise_cons.1 h
  constructor
  ·rintro (rfl|⟨q1,q2,q3⟩)
   ·refine ⟨by simp,fun z hz hzx=>?_⟩
    have hzx':=(z0Z _ _).1 hzx
    rcases List.mem_cons.1 hz with rfl|hz
    ·exact Int.le_refl _
    ·have:=z6r.1 (h1 z hz);unfold kltE at this;omega
   ·refine ⟨by simp [q1],fun z hz hzx=>?_⟩
    rcases List.mem_cons.1 hz with rfl|hz
    ·have hzx':=(z0Z _ _).1 hzx
     have:eqE x z=true:=(z0Z _ _).2 ⟨hzx'.1.symm,hzx'.2.symm⟩
     rw [this] at q2;cases q2
    ·exact q3 z hz hzx
  ·rintro ⟨q1,q3⟩
   by_cases hxp:x.f=p.f∧x.t=p.t
   ·left
    have h5:=q3 p (by simp) ((z0Z _ _).2 ⟨hxp.1.symm,hxp.2.symm⟩)
    rcases List.mem_cons.1 q1 with e|e
    ·exact e
    ·have h6:=z6r.1 (h1 x e)
     unfold kltE at h6
     obtain ⟨xf,xt,xk⟩:=x
     obtain ⟨yf,yt,yk⟩:=p
     simp only at h5 h6 hxp
     have:xk=yk:=by omega
     simp [hxp.1,hxp.2,this]
   ·right
    rcases List.mem_cons.1 q1 with e|e
    ·subst e;exact absurd ⟨rfl,rfl⟩ hxp
    ·refine ⟨e,?_,fun z hz=>q3 z (by simp [hz])⟩
     cases he:eqE x p with
     | false=>rfl
     | true=>exact absurd ((z0Z _ _).1 he) hxp
theorem z8v {S:List Ed} (h:S.Pairwise (fun x y => ¬ cmpE y x<0)):(z3S S).Pairwise kltE:=by
 cases S with
 | nil=>simp [z3S]
 | cons p r=>exact z6p h
theorem z7l {l:List Ev} {j:Nat} : ∀ {k:Nat} {x:Ed},x ∈ edJ l j k ↔ ∃ i,i<k∧qi l i j=true∧x=⟨i,j,kdL l i j⟩
 | 0,x=>by simp [edJ]
 | k+1,x=>by
  rw [edJ,List.mem_append,z7l]
  constructor
  ·rintro (⟨i,h1,h2⟩|h)
   ·exact ⟨i,by omega,h2⟩
   ·split at h
    ·rename_i him;exact ⟨k,Nat.lt_succ_self _,him,List.mem_singleton.1 h⟩
    ·cases h
  ·rintro ⟨i,h1,h2,h3⟩
   by_cases e:i=k
   ·subst e;right;rw [if_pos h2];exact List.mem_singleton.2 h3
   ·exact .inl ⟨i,by omega,h2,h3⟩
theorem z7s {l:List Ev} : ∀ {n:Nat} {x:Ed},x ∈ edU l n ↔ ∃ j i,j<n∧i<j∧qi l i j=true∧x=⟨i,j,kdL l i j⟩
 | 0,x=>by simp [edU]
 | n+1,x=>by
  rw [edU,List.mem_append,z7s,z7l]
  constructor
  ·rintro (⟨j,i,h1,h2⟩|⟨i,h1,h2⟩)
   ·exact ⟨j,i,by omega,h2⟩
   ·exact ⟨n,i,Nat.lt_succ_self _,h1,h2⟩
  ·rintro ⟨j,i,h1,h2,h3⟩
   by_cases e:j=n
   ·subst e;exact .inr ⟨i,h2,h3⟩
   ·exact .inl ⟨j,i,by omega,h2,h3⟩
theorem z6N {l:List Ev} {j:Nat} : ∀ k,(edJ l j k).Pairwise kltE
 | 0=>by simp [edJ]
 | k+1=>by
  rw [edJ,List.pairwise_append]
  refine ⟨z6N k,?_,fun a ha b hb=>?_⟩
  ·split <;> simp
  ·obtain ⟨i,h1,_,rfl⟩:=z7l.1 ha
   split at hb
   ·rw [List.mem_singleton.1 hb];right;exact ⟨rfl,by simp only [];omega⟩
   ·cases hb
theorem z6T {l:List Ev} : ∀ n,(edU l n).Pairwise kltE
 | 0=>by simp [edU]
 | n+1=>by
  rw [edU,List.pairwise_append]
  refine ⟨z6T n,z6N n,fun a ha b hb=>?_⟩
  obtain ⟨j,i,h1,_,_,rfl⟩:=z7s.1 ha
  obtain ⟨i',_,_,rfl⟩:=z7l.1 hb
  left;simp only [];omega
theorem edges_eq {l:List Ev} (hv:(qx l).2=true) (hk : ∀ e ∈ l,0≤e.kind) {S:List Ed} (hp:S.Perm (z0v l l.length)) (hs:S.Pairwise (fun x y => ¬ cmpE y x<0)):z3S S=edU l l.length:=by
 refine zah (z8v hs) (z6T _) fun x=>?_
 rw [cmpct_mem hs,z7s]
 have hmem : ∀ z,z ∈ S↔z ∈ z0v l l.length:=fun z=>hp.mem_iff
 constructor
 ·rintro ⟨h1,h2⟩
  obtain ⟨j,e,hj,hy,hx⟩:=z0n.1 ((hmem x).1 h1)
  obtain ⟨i,hij,hxe⟩:=z2u hy hx
  obtain ⟨d,hd⟩:=zT (show i<l.length by omega)
  rw [hxe] at hx
  refine ⟨j,i,hj,hij,(z5V hv hy hij).2 ⟨_,hx⟩,?_⟩
  rw [hxe,kdL_eq hd hy]
  congr 1
  rcases (z1H hd hy hij hv x.k).1 hx with ⟨h3,h4⟩|⟨h3,h4⟩
  ·rw [h3,if_pos h4]
  ·rw [h3]
   split
   ·rename_i hpg
    have h5:(⟨i,j,0⟩ : Ed) ∈ S:=(hmem _).2 (z0n.2 ⟨j,e,hj,hy,(z1H hd hy hij hv 0).2 (.inl ⟨rfl,hpg⟩)⟩)
    have h6:=h2 _ h5 ((z0Z _ _).2 ⟨by rw [hxe],by rw [hxe]⟩)
    simp only at h6
    have h7:=hk e (List.mem_of_getElem? hy)
    omega
   ·rfl
 ·rintro ⟨j,i,hj,hij,him,rfl⟩
  obtain ⟨e,hy⟩:=zT hj
  obtain ⟨d,hd⟩:=zT (show i<l.length by omega)
  have hall : ∀ z ∈ S,eqE z ⟨i,j,kdL l i j⟩=true→(z.k=0∧z2y l d e i j=true)∨(z.k=e.kind∧(z4Z l d e j=true∨(((d.obj != e.obj)||(d.off != e.off))=false∧kndB l d e i j=true))):=fun z hz hze=>by
   obtain ⟨j',e',hj',hy',hz'⟩:=z0n.1 ((hmem z).1 hz)
   obtain ⟨i',hij',hzz⟩:=z2u hy' hz'
   have hze':=(z0Z _ _).1 hze
   rw [hzz] at hze'
   simp only [Int.natCast_inj] at hze'
   obtain ⟨rfl,rfl⟩:=hze'
   rw [hy] at hy'
   cases hy'
   rw [hzz] at hz'
   exact (z1H hd hy hij hv z.k).1 hz'
  refine ⟨?_,fun z hz hze=>?_⟩
  ·rw [hmem]
   refine z0n.2 ⟨j,e,hj,hy,(z1H hd hy hij hv _).2 ?_⟩
   rw [kdL_eq hd hy]
   rw [z6v hd hy,z9H hd hy] at him
   split
   ·rename_i hpg;exact .inl ⟨rfl,hpg⟩
   ·rename_i hpg
    rcases him with h|h
    ·exact absurd h hpg
    ·exact .inr ⟨rfl,h⟩
  ·rw [kdL_eq hd hy]
   rcases hall z hz hze with ⟨h3,h4⟩|⟨h3,h4⟩
   ·rw [h3];simp only [];rw [if_pos h4];exact Int.le_refl _
   ·rw [h3]
    have:=hk e (List.mem_of_getElem? hy)
    simp only []
    split <;> omega
theorem cnM_at {l:List Ev} (hv:(qx l).2=true) {a b:Nat} (ha:a<l.length) (hb:b≤a):cnM l a b=((b==a)||hbB l a b):=cnM_eq hv ha hb
theorem z4J {p q:Nat→Bool} : ∀ {k:Nat},(∀ i,i<k→p i=q i)→rgF p k=rgF q k
 | 0,_=>rfl
 | k+1,h=>by rw [z0T,z0T,z4J (fun i hi=>h i (by omega)),h k (by omega)]
theorem cone_eq (l:List Ev) (j:Int):coneO l j=z1z l j:=by
 unfold coneO z1z
 cases hv:(qx l).2 with
 | false=>simp
 | true =>
  by_cases hj:j<0
  ·simp [hj]
  by_cases hn:(l.length:Int)≤j
  ·simp [hn]
  obtain ⟨b,rfl⟩ : ∃ b:Nat,j=b:=⟨j.toNat,by omega⟩
  simp only [Int.toNat_natCast,hj,hn,decide_false,Bool.not_false,Bool.and_self,if_true,coneB]
  have hb:b<l.length:=by omega
  rw [z0T,cnM_at hv hb (Nat.le_refl b)]
  simp only [beq_self_eq_true,Bool.true_or,if_true]
  congr 1
  refine z4J fun i hi=>?_
  rw [cnM_at hv hb (by omega)]
  have:(i==b)=false:=by simp;omega
  simp [this]
end Go.Proofs.Ytdlgoofjechocaa
namespace Go.Proofs.Ytdlgoofjechocaa
theorem hb_trans {l:List Ev} : ∀ (k:Nat) {j i:Nat},hbB l k j=true→hbB l j i=true→hbB l k i=true:=by
 intro k
 induction k using Nat.strongRecOn with
 | ind k ih =>
  intro j i h1 h2
  rw [z4U] at h1
  obtain ⟨m,hm,hi,h⟩:=h1
  have hij:=z5m _ _ _ h2
  rw [z4U]
  rcases h with rfl|⟨hjm,h⟩
  ·exact ⟨j,hm,hi,.inr ⟨hij,h2⟩⟩
  ·exact ⟨m,hm,hi,.inr ⟨by omega,ih m hm h h2⟩⟩
theorem hb_imm {l:List Ev} {i j:Nat} (h:i<j) (hi:qi l i j=true):hbB l j i=true:=by
 rw [z4U];exact ⟨i,h,hi,.inl rfl⟩
end Go.Proofs.Ytdlgoofjechocaa
namespace Go.Proofs.Ytdlgoofjechocaa
open Go.RowKit Go.Sort
end Go.Proofs.Ytdlgoofjechocaa
namespace Go.Proofs.Ytdlgoofjechocaa
def ledB (l:List Ev) (j n a:Nat):Bool:=(a==j)||(List.range l.length).any fun y=>decide (n≤y)&&(decide (a<y)&&(qi l a y&&((y==j)||hbB l j y)))
theorem ledB_iff {l:List Ev} {j n a:Nat} : ledB l j n a=true↔a=j ∨ ∃ y,y<l.length∧n≤y∧a<y∧qi l a y=true∧(y=j∨hbB l j y=true):=by
 unfold ledB
 rw [Bool.or_eq_true,List.any_eq_true]
 simp only [beq_iff_eq,List.mem_range,Bool.and_eq_true,decide_eq_true_eq,Bool.or_eq_true]
theorem z7h {l:List Ev} : ∀ (j:Nat) {a:Nat},hbB l j a=true ↔ ∃ y,a<y∧y≤j∧qi l a y=true∧(y=j∨hbB l j y=true):=by
 intro j
 induction j using Nat.strongRecOn with
 | ind j ih =>
  intro a
  constructor
  ·intro h
   rw [z4U] at h
   obtain ⟨i,h1,h2,h3⟩:=h
   rcases h3 with rfl|⟨h3,h4⟩
   ·exact ⟨j,h1,Nat.le_refl _,h2,.inl rfl⟩
   ·obtain ⟨y,k1,k2,k3,k4⟩:=(ih i h1).1 h4
    refine ⟨y,k1,by omega,k3,.inr ?_⟩
    rw [z4U]
    rcases k4 with rfl|k4
    ·exact ⟨y,h1,h2,.inl rfl⟩
    ·exact ⟨i,h1,h2,.inr ⟨z5m _ _ _ k4,k4⟩⟩
  ·rintro ⟨y,k1,k2,k3,k4⟩
   rcases k4 with rfl|k4
   ·exact hb_imm k1 k3
   ·exact hb_trans j k4 (hb_imm k1 k3)
theorem z5C {l:List Ev} {j a:Nat} (hj:j<l.length):ledB l j 0 a=((a==j)||hbB l j a):=by
 rw [Bool.eq_iff_iff,ledB_iff,Bool.or_eq_true,beq_iff_eq,z7h]
 refine or_congr Iff.rfl ?_
 constructor
 ·rintro ⟨y,h1,h2,h3,h4,h5⟩
  refine ⟨y,h3,?_,h4,h5⟩
  rcases h5 with rfl|h5
  ·exact Nat.le_refl _
  ·exact Nat.le_of_lt (z5m _ _ _ h5)
 ·rintro ⟨y,h1,h2,h3,h4⟩
  exact ⟨y,by omega,Nat.zero_le _,h1,h3,h4⟩
theorem edU_ends {l:List Ev} {n:Nat} {e:Ed} (h:e ∈ edU l n) : ∃ i j:Nat,i<j∧j<n∧e.f=i∧e.t=j:=by
 obtain ⟨j,i,h1,h2,_,rfl⟩:=z7s.1 h
 exact ⟨i,j,h2,h1,rfl,rfl⟩
theorem z9E {p:Nat→Bool} {n:Nat} : ∀ {d:Nat},(∀ i,n≤i→p i=false)→rgF p (n+d)=rgF p n
 | 0,_=>rfl
 | d+1,h=>by rw [← Nat.add_assoc,z0T,h (n+d) (by omega),if_neg (by simp),List.append_nil,z9E h]
theorem cone_rgF {l:List Ev} (hv:(qx l).2=true) {j:Nat} (hj:j<l.length):coneO l j=rgF (ledB l j 0) l.length:=by
 rw [cone_eq]
 unfold z1z
 have d1:decide ((j:Int)<0)=false:=by simp
 have d2:decide ((l.length:Int)≤(j:Int))=false:=by simp;omega
 rw [hv,d1,d2]
 simp only [Bool.not_false,Bool.and_self,if_true,Int.toNat_natCast]
 have hz : ∀ i,j+1≤i→ledB l j 0 i=false:=fun i hi=>by
  rw [z5C hj]
  have:hbB l j i=false:=by
   cases h:hbB l j i with
   | false=>rfl
   | true=>have:=z5m _ _ _ h;omega
  rw [this];simp;omega
 have:=z9E (n:=j+1) (d:=l.length-(j+1)) hz
 rw [show j+1+(l.length-(j+1))=l.length by omega] at this
 rw [this,z0T,z5C hj]
 simp only [beq_self_eq_true,Bool.true_or,if_true]
 congr 1
 refine z4J fun i hi=>?_
 rw [z5C hj]
 have:(i==j)=false:=by simp;omega
 rw [this];simp
end Go.Proofs.Ytdlgoofjechocaa
namespace Go.Proofs.Ytdlgoofjechocaa
open Go.RowKit Go.Sort
def Chn (l:List Ev):Nat→Nat→Nat→Prop
 | 0,a,b=>a=b
 | c+1,a,b => ∃ n,a<n∧qi l a n=true∧Chn l c n b
theorem Chn.le {l:List Ev} : ∀ {c a b:Nat},Chn l c a b→a≤b
 | 0,a,b,h=>Nat.le_of_eq h
 | c+1,a,b,⟨n,h1,_,h3⟩=>Nat.le_of_lt (Nat.lt_of_lt_of_le h1 h3.le)
def Dst (l:List Ev) (j a:Nat):Nat→Prop
 | 0 => ∀ c,¬ Chn l c a j
 | v+1=>Chn l v a j ∧ ∀ c,c<v → ¬ Chn l c a j
theorem Dst.uniq {l:List Ev} {j a:Nat} : ∀ {v w:Nat},Dst l j a v→Dst l j a w→v=w
 | 0,0,_,_=>rfl
 | 0,w+1,h,k=>absurd k.1 (h w)
 | v+1,0,h,k=>absurd h.1 (k v)
 | v+1,w+1,h,k=>by
  by_cases e1:v<w
  ·exact absurd h.1 (k.2 v e1)
  ·by_cases e2:w<v
   ·exact absurd k.1 (h.2 w e2)
   ·omega
theorem za4 (l:List Ev) (j:Nat):Dst l j j 1:=⟨rfl,fun c h=>absurd h (Nat.not_lt_zero c)⟩
theorem dst_ex (l:List Ev) (j a:Nat) : ∃ v,Dst l j a v:=by
 by_cases h : ∃ c,Chn l c a j
 ·obtain ⟨c,hc⟩:=h
  have key : ∀ c,Chn l c a j → ∃ v,Dst l j a (v+1):=by
   intro c
   induction c using Nat.strongRecOn with
   | _ c ih =>
    intro hc
    by_cases h2 : ∃ d,d<c∧Chn l d a j
    ·obtain ⟨d,h3,h4⟩:=h2;exact ih d h3 h4
    ·exact ⟨c,hc,fun d hd h=>h2 ⟨d,hd,h⟩⟩
  obtain ⟨v,hv⟩:=key c hc
  exact ⟨v+1,hv⟩
 ·exact ⟨0,fun c hc=>h ⟨c,hc⟩⟩
theorem z7K {l:List Ev} {j a v:Nat} (h:Dst l j a (v+2)) : ∃ n,a<n∧qi l a n=true∧Dst l j n (v+1):=by
 obtain ⟨⟨n,h1,h2,h3⟩,h4⟩:=h
 exact ⟨n,h1,h2,h3,fun c hc h=>h4 (c+1) (by omega) ⟨n,h1,h2,h⟩⟩
theorem z9d {l:List Ev} {j a:Nat} (h:Dst l j a 1):a=j:=h.1
theorem dst_pred {l:List Ev} {j a n v:Nat} (h1:a<n) (h2:qi l a n=true) (h3:Dst l j n (v+1)) : ∃ w,w≤v+1∧Dst l j a (w+1):=by
 obtain ⟨w,hw⟩:=dst_ex l j a
 have hc:Chn l (v+1) a j:=⟨n,h1,h2,h3.1⟩
 cases w with
 | zero=>exact absurd hc (hw _)
 | succ w=>exact ⟨w,Nat.le_of_not_lt fun h=>hw.2 _ h hc,hw⟩
theorem z9v {l:List Ev} {j a v:Nat} (h:Dst l j a (v+1)):a≤j:=h.1.le
theorem z6Y {l:List Ev} {j:Nat} : ∀ {c a:Nat},Chn l c a j→a=j∨hbB l j a=true
 | 0,a,h => .inl h
 | c+1,a,⟨n,h1,h2,h3⟩ => .inr (z7h j |>.2 ⟨n,h1,h3.le,h2,z6Y h3⟩)
theorem hb_chn {l:List Ev} {j:Nat} : ∀ {d a:Nat},j-a≤d→(a=j∨hbB l j a=true) → ∃ c,Chn l c a j
 | d,a,hd,.inl h=>⟨0,h⟩
 | d,a,hd,.inr h=>by
  obtain ⟨y,h1,h2,h3,h4⟩:=(z7h j).1 h
  cases d with
  | zero=>omega
  | succ d =>
   obtain ⟨c,hc⟩:=hb_chn (d:=d) (by omega) h4
   exact ⟨c+1,y,h1,h3,hc⟩
theorem chn_iff {l:List Ev} {j a:Nat} : (∃ c,Chn l c a j)↔(a=j∨hbB l j a=true):=⟨fun ⟨_,h⟩=>z6Y h,hb_chn (Nat.le_refl _)⟩
theorem dst_hb {l:List Ev} {j a v:Nat} (h:Dst l j a v) : 0<v↔(a=j∨hbB l j a=true):=by
 rw [← chn_iff]
 cases v with
 | zero=>exact ⟨fun h=>absurd h (Nat.lt_irrefl 0),fun ⟨c,hc⟩=>absurd hc (h c)⟩
 | succ v=>exact ⟨fun _=>⟨v,h.1⟩,fun _=>Nat.succ_pos v⟩
def upG (g:Nat→Nat) (p v:Nat):Nat→Nat:=fun a=>if a=p then v else g a
theorem z0K (g:Nat→Nat) (p v:Nat):upG g p v p=v:=if_pos rfl
theorem z0M (g:Nat→Nat) {p a:Nat} (v:Nat) (h:a ≠ p):upG g p v a=g a:=if_neg h
def DnG (l:List Ev) (g:Nat→Nat) (a:Nat):Prop := ∀ p,p<a→qi l p a=true → 0<g p
structure BfO (l:List Ev) (i j:Nat) (g:Nat→Nat) (q:List Nat):Prop where
 gj:g j=1
 gi:g i=0
 ex : ∀ a,0<g a→Dst l j a (g a)
 qs : ∀ a ∈ q,0<g a
 so:q.Pairwise fun x y=>g x≤g y
 le : ∀ x,q.head? = some x → ∀ y ∈ q,g y≤g x+1
 dn : ∀ a,0<g a→a ∉ q→DnG l g a
structure BfI (l:List Ev) (i j k:Nat) (S:List Nat) (g:Nat→Nat) (q:List Nat):Prop where
 gj:g j=1
 gi:g i=0
 gk : 0<g k
 ex : ∀ a,0<g a→Dst l j a (g a)
 so:q.Pairwise fun x y=>g x≤g y
 lo : ∀ y ∈ q,g k≤g y
 le : ∀ y ∈ q,g y≤g k+1
 dn : ∀ a,0<g a→a ∉ q→a ≠ k→DnG l g a
 pk : ∀ p ∈ S,0<g p
theorem BfO.start {l:List Ev} {i j:Nat} (h:i ≠ j):BfO l i j (upG (fun _ => 0) j 1) [j] where
 gj:=z0K _ _ _
 gi:=z0M _ _ h
 ex:=fun a ha=>by
  by_cases e:a=j
  ·subst e;rw [z0K];exact za4 l a
  ·rw [z0M _ _ e] at ha;exact absurd ha (Nat.lt_irrefl 0)
 qs:=fun a ha=>by rw [List.mem_singleton.1 ha,z0K];exact Nat.one_pos
 so:=List.pairwise_singleton _ _
 le:=fun x hx y hy=>by
  cases hx;rw [List.mem_singleton.1 hy];omega
 dn:=fun a ha hq=>by
  by_cases e:a=j
  ·exact absurd (List.mem_singleton.2 e) hq
  ·rw [z0M _ _ e] at ha;exact absurd ha (Nat.lt_irrefl 0)
theorem BfO.pop {l:List Ev} {i j k:Nat} {g:Nat→Nat} {q:List Nat} (h:BfO l i j g (k :: q)):BfI l i j k [] g q where
 gj:=h.gj
 gi:=h.gi
 gk:=h.qs k List.mem_cons_self
 ex:=h.ex
 so:=(List.pairwise_cons.1 h.so).2
 lo:=(List.pairwise_cons.1 h.so).1
 le:=fun y hy=>h.le k rfl y (List.mem_cons_of_mem _ hy)
 dn:=fun a ha hq hk=>h.dn a ha fun h=>(List.mem_cons.1 h).elim hk hq
 pk:=fun p hp=>(by cases hp)
theorem BfI.done {l:List Ev} {i j k:Nat} {S:List Nat} {g:Nat→Nat} {q:List Nat} (h:BfI l i j k S g q) (hS : ∀ p,p<k→qi l p k=true→p ∈ S):BfO l i j g q where
 gj:=h.gj
 gi:=h.gi
 ex:=h.ex
 qs:=fun a ha=>Nat.lt_of_lt_of_le h.gk (h.lo a ha)
 so:=h.so
 le:=fun x hx y hy=>by
  have h1:=h.lo x (List.mem_of_mem_head? hx)
  have h2:=h.le y hy
  omega
 dn:=fun a ha hq=>by
  by_cases e:a=k
  ·subst e;exact fun p hp hi=>h.pk p (hS p hp hi)
  ·exact h.dn a ha hq e
theorem BfI.skip {l:List Ev} {i j k p:Nat} {S:List Nat} {g:Nat→Nat} {q:List Nat} (h:BfI l i j k S g q) (hs : 0<g p):BfI l i j k (S ++ [p]) g q :=
 ⟨h.gj,h.gi,h.gk,h.ex,h.so,h.lo,h.le,h.dn,fun x hx=>(List.mem_append.1 hx).elim (h.pk x) fun h1=>by rw [List.mem_singleton.1 h1];exact hs⟩
theorem BfI.near {l:List Ev} {i j k:Nat} {S:List Nat} {g:Nat→Nat} {q:List Nat} (h:BfI l i j k S g q) : ∀ {v a:Nat},v+1<g k→Dst l j a (v+1)→g a=v+1:=by
 intro v
 induction v with
 | zero =>
  intro a hv ha
  rw [z9d ha,h.gj]
 | succ v ih =>
  intro a hv ha
  obtain ⟨n,h1,h2,h3⟩:=z7K ha
  have h4:=ih (by omega) h3
  have h5:n ∉ q:=fun hq=>by have:=h.lo n hq;omega
  have h6:=h.dn n (by omega) h5 (fun e=>by rw [e] at h4;omega) a h1 h2
  exact (h.ex a h6).uniq ha
theorem BfI.near1 {l:List Ev} {i j k:Nat} {S:List Nat} {g:Nat→Nat} {q:List Nat} (h:BfI l i j k S g q) {v a:Nat} (hv:v+1≤g k) (ha:Dst l j a (v+1)):g a=v+1:=by
 cases v with
 | zero=>rw [z9d ha,h.gj]
 | succ v =>
  obtain ⟨n,h1,h2,h3⟩:=z7K ha
  have h4:=h.near (by omega) h3
  have h5:n ∉ q:=fun hq=>by have:=h.lo n hq;omega
  have h6:=h.dn n (by omega) h5 (fun e=>by rw [e] at h4;omega) a h1 h2
  exact (h.ex a h6).uniq ha
theorem BfI.exact {l:List Ev} {i j k:Nat} {S:List Nat} {g:Nat→Nat} {q:List Nat} (h:BfI l i j k S g q) {p:Nat} (hp:p<k) (hi:qi l p k=true) (h0:g p=0):Dst l j p (g k+1):=by
 obtain ⟨v,hv⟩ : ∃ v,g k=v+1:=⟨g k-1,by have:=h.gk;omega⟩
 have hk:=h.ex k h.gk
 rw [hv] at hk
 obtain ⟨w,hw,hd⟩:=dst_pred hp hi hk
 by_cases e:w=v+1
 ·rw [hv,← e];exact hd
 ·have:=h.near1 (by omega) hd
  omega
theorem BfI.set {l:List Ev} {i j k m:Nat} {S:List Nat} {g:Nat→Nat} {q:List Nat} (h:BfI l i j k S g q) (hm:m<k) (hi:qi l m k=true) (h0:g m=0) (hne:m ≠ i):BfI l i j k (S ++ [m]) (upG g m (g k+1)) (q ++ [m]) where
 gj:=by rw [z0M _ _ (fun e=>by rw [← e,h.gj] at h0;cases h0)];exact h.gj
 gi:=by rw [z0M _ _ (fun e=>hne e.symm)];exact h.gi
 gk:=by rw [z0M _ _ (by omega)];exact h.gk
 ex:=fun a ha=>by
  by_cases e:a=m
  ·subst e;rw [z0K];exact h.exact hm hi h0
  ·rw [z0M _ _ e] at ha ⊢;exact h.ex a ha
 so:=by
  have hq : ∀ x ∈ q,x ≠ m:=fun x hx e=>by have:=h.lo x hx;have:=h.gk;rw [e] at *;omega
  rw [List.pairwise_append]
  refine ⟨h.so.imp_of_mem fun {a b} ha hb hab=>?_,List.pairwise_singleton _ _,fun a ha b hb=>?_⟩
  ·rw [z0M _ _ (hq a ha),z0M _ _ (hq b hb)];exact hab
  ·rw [List.mem_singleton.1 hb,z0K,z0M _ _ (hq a ha)];exact h.le a ha
 lo:=fun y hy=>by
  rw [z0M (a:=k) _ _ (by omega)]
  by_cases e:y=m
  ·subst e;rw [z0K];omega
  ·rw [z0M _ _ e]
   rcases List.mem_append.1 hy with h1|h1
   ·exact h.lo y h1
   ·exact absurd (List.mem_singleton.1 h1) e
 le:=fun y hy=>by
  rw [z0M (a:=k) _ _ (by omega)]
  by_cases e:y=m
  ·subst e;rw [z0K];exact Nat.le_refl _
  ·rw [z0M _ _ e]
   rcases List.mem_append.1 hy with h1|h1
   ·exact h.le y h1
   ·exact absurd (List.mem_singleton.1 h1) e
 dn:=fun a ha hq hk p hp hpi=>by
  have e:a ≠ m:=fun e=>hq (List.mem_append.2 (.inr (List.mem_singleton.2 e)))
  rw [z0M _ _ e] at ha
  have:=h.dn a ha (fun h=>hq (List.mem_append.2 (.inl h))) hk p hp hpi
  by_cases e2:p=m
  ·subst e2;rw [z0K];omega
  ·rw [z0M _ _ e2];exact this
 pk:=fun p hp=>by
  by_cases e:p=m
  ·subst e;rw [z0K];omega
  ·rw [z0M _ _ e]
   rcases List.mem_append.1 hp with h1|h1
   ·exact h.pk p h1
   ·exact absurd (List.mem_singleton.1 h1) e
structure BfR (l:List Ev) (i j:Nat) (g:Nat→Nat):Prop where
 gj:g j=1
 ex : ∀ a,0<g a→Dst l j a (g a)
 yes : 0<g i → ∀ a v,v+1<g i→Dst l j a (v+1)→g a=v+1
 no:g i=0 → ∀ a,g a=0→Dst l j a 0
theorem BfO.fin {l:List Ev} {i j:Nat} {g:Nat→Nat} (h:BfO l i j g []):BfR l i j g where
 gj:=h.gj
 ex:=h.ex
 yes:=fun hg=>by rw [h.gi] at hg;exact absurd hg (Nat.lt_irrefl 0)
 no:=fun _ a ha c hc=>by
  have key : ∀ c a,Chn l c a j → 0<g a:=by
   intro c
   induction c with
   | zero=>intro a hc;rw [show a=j from hc,h.gj];exact Nat.one_pos
   | succ c ih =>
    rintro a ⟨n,h1,h2,h3⟩
    exact h.dn n (ih n h3) List.not_mem_nil a h1 h2
  have:=key c a hc
  omega
theorem BfI.brk {l:List Ev} {i j k:Nat} {S:List Nat} {g:Nat→Nat} {q:List Nat} (h:BfI l i j k S g q) (hm:i<k) (hi:qi l i k=true) (hij:i ≠ j):BfR l i j (upG g i (g k+1)) where
 gj:=by rw [z0M _ _ (fun e=>hij e.symm)];exact h.gj
 ex:=fun a ha=>by
  by_cases e:a=i
  ·subst e;rw [z0K];exact h.exact hm hi h.gi
  ·rw [z0M _ _ e] at ha ⊢;exact h.ex a ha
 yes:=fun _ a v hv ha=>by
  rw [z0K] at hv
  have h1:=h.near1 (by omega) ha
  rw [z0M _ _ (fun e=>by rw [e,h.gi] at h1;omega)]
  exact h1
 no:=fun h0=>by rw [z0K] at h0;omega
def uaG (g:Nat→Nat) (n:Nat):Nat:=((List.range n).filter fun a=>g a==0).length
theorem z4B (g:Nat→Nat) (n:Nat):uaG g (n+1)=uaG g n+if g n=0 then 1 else 0:=by
 unfold uaG
 rw [List.range_succ,List.filter_append,List.length_append,List.filter_cons,List.filter_nil]
 by_cases h:g n=0
 ·simp [h]
 ·simp [h]
theorem uaG_out (g:Nat→Nat) {p v:Nat} : ∀ {n:Nat},n≤p→uaG (upG g p v) n=uaG g n
 | 0,_=>rfl
 | n+1,h=>by rw [z4B,z4B,uaG_out g (by omega),z0M _ _ (by omega)]
theorem z8Z {g:Nat→Nat} {p v:Nat} (h0:g p=0) (hv : 0<v) : ∀ {n:Nat},p<n→uaG (upG g p v) n+1=uaG g n
 | 0,h=>absurd h (Nat.not_lt_zero p)
 | n+1,h=>by
  rw [z4B,z4B]
  by_cases e:p=n
  ·subst e
   rw [uaG_out g (Nat.le_refl _),z0K,if_pos h0,if_neg (by omega)]
  ·have:=z8Z (v:=v) h0 hv (n:=n) (by omega)
   rw [z0M _ _ (fun h=>e h.symm)]
   omega
noncomputable def zO (l:List Ev) (j a:Nat):Nat:=Classical.choose (dst_ex l j a)
theorem z0B (l:List Ev) (j a:Nat):Dst l j a (zO l j a):=Classical.choose_spec (dst_ex l j a)
theorem z2O {l:List Ev} {j a v:Nat} (h:Dst l j a v):zO l j a=v:=(z0B l j a).uniq h
theorem z16 (l:List Ev) (j:Nat):zO l j j=1:=z2O (za4 l j)
theorem z5B {l:List Ev} {j a:Nat} (h:zO l j a=1):a=j:=by
 have:=z0B l j a
 rw [h] at this
 exact z9d this
theorem z7v {l:List Ev} {j a:Nat} (h:j<a):zO l j a=0:=by
 have:=z0B l j a
 cases hv:zO l j a with
 | zero=>rfl
 | succ v=>rw [hv] at this;have:=z9v this;omega
theorem z5S {l:List Ev} {j a:Nat} : 0<zO l j a↔(a=j∨hbB l j a=true):=dst_hb (z0B l j a)
noncomputable def folB (l:List Ev) (j k n:Nat):Bool:=decide (k<n)&&(qi l k n&&decide (zO l j n+1=zO l j k))
theorem fol_ex {l:List Ev} {j k:Nat} (h : 2≤zO l j k) : ∃ n,n≤j∧folB l j k n=true:=by
 obtain ⟨v,hv⟩ : ∃ v,zO l j k=v+2:=⟨zO l j k-2,by omega⟩
 have h1:=z0B l j k
 rw [hv] at h1
 obtain ⟨n,h2,h3,h4⟩:=z7K h1
 refine ⟨n,z9v h4,?_⟩
 simp [folB,h2,h3,z2O h4,hv]
noncomputable def nxtC (l:List Ev) (j k:Nat):Nat:=((List.range (j+1)).find? (folB l j k)).getD 0
theorem find_range {p:Nat→Bool} : ∀ {n m:Nat},m<n→p m=true→(∀ a,a<m→p a=false)→(List.range n).find? p=some m
 | n+1,m,h,hp,ha=>by
  rw [List.range_succ,List.find?_append]
  by_cases e:m=n
  ·subst e
   rw [List.find?_eq_none.2 fun a h=>by rw [ha a (List.mem_range.1 h)];simp]
   simp [hp]
  ·rw [find_range (by omega) hp ha];rfl
theorem z9P {l:List Ev} {j k n:Nat} (h2 : 2≤zO l j k) (hp:folB l j k n=true) (ha : ∀ a,a<n→folB l j k a=false):nxtC l j k=n:=by
 unfold nxtC
 have hn:n≤j:=by
  simp only [folB,Bool.and_eq_true,decide_eq_true_eq] at hp
  by_cases h:j<n
  ·have h0:=z7v (l:=l) h
   omega
  ·omega
 rw [find_range (by omega) hp ha]
 rfl
theorem z3H {l:List Ev} {j k:Nat} (h : 2≤zO l j k):folB l j k (nxtC l j k)=true ∧ ∀ a,a<nxtC l j k→folB l j k a=false:=by
 have key : ∀ n,(∃ m,m≤n∧folB l j k m=true) → ∃ m,folB l j k m=true ∧ ∀ a,a<m→folB l j k a=false:=by
  intro n
  induction n with
  | zero=>rintro ⟨m,h1,h2⟩;exact ⟨m,h2,fun a ha=>by omega⟩
  | succ n ih =>
   rintro ⟨m,h1,h2⟩
   by_cases e : ∃ m,m≤n∧folB l j k m=true
   ·exact ih e
   ·refine ⟨m,h2,fun a ha=>?_⟩
    cases hb:folB l j k a with
    | false=>rfl
    | true=>exact absurd ⟨a,by omega,hb⟩ e
 obtain ⟨n,h1,h2⟩:=fol_ex h
 obtain ⟨m,h3,h4⟩:=key n ⟨n,Nat.le_refl _,h2⟩
 rw [z9P h h3 h4]
 exact ⟨h3,h4⟩
theorem z2Z {l:List Ev} {j k:Nat} (h : 2≤zO l j k):zO l j (nxtC l j k)+1=zO l j k:=by
 have:=(z3H h).1
 simp only [folB,Bool.and_eq_true,decide_eq_true_eq] at this
 exact this.2.2
theorem z5U {l:List Ev} {j k:Nat} (h : 2≤zO l j k):k<nxtC l j k:=by
 have:=(z3H h).1
 simp only [folB,Bool.and_eq_true,decide_eq_true_eq] at this
 exact this.1
theorem z7w {l:List Ev} {j k:Nat} (h : 2≤zO l j k):qi l k (nxtC l j k)=true:=by
 have:=(z3H h).1
 simp only [folB,Bool.and_eq_true,decide_eq_true_eq] at this
 exact this.2.1
theorem z6I {l:List Ev} {j k:Nat} (h : 2≤zO l j k):nxtC l j k≤j:=by
 have:=z2Z h
 by_cases e:j<nxtC l j k
 ·rw [z7v e] at this;omega
 ·omega
noncomputable def chT (l:List Ev) (j:Nat):Nat→Nat→List Nat
 | 0,_ => []
 | v+1,k=>nxtC l j k :: chT l j v (nxtC l j k)
noncomputable def chC (l:List Ev) (i j:Nat):List Nat:=i :: chT l j (zO l j i-1) i
theorem chT_len (l:List Ev) (j:Nat) : ∀ v k,(chT l j v k).length=v
 | 0,_=>rfl
 | v+1,k=>by rw [chT,List.length_cons,chT_len l j v]
theorem chT_step {l:List Ev} {j k:Nat} (h : 2≤zO l j k):chT l j (zO l j k-1) k=nxtC l j k :: chT l j (zO l j (nxtC l j k)-1) (nxtC l j k):=by
 have:=z2Z h
 rw [show zO l j k-1=(zO l j (nxtC l j k)-1)+1 by omega,chT]
theorem z2F {l:List Ev} {j:Nat} : ∀ {d k:Nat},j-k≤d→k≤j→zO l j k≤d+1
 | 0,k,h,hk=>by
  have:k=j:=by omega
  rw [this,z16];omega
 | d+1,k,h,hk=>by
  by_cases h2 : 2≤zO l j k
  ·have h3:=z2Z h2
   have:=z2F (l:=l) (d:=d) (k:=nxtC l j k) (by have:=z5U h2;omega) (z6I h2)
   omega
  ·omega
def bstD (l:List Ev) (f:Nat→Nat) (k:Nat):Nat→Nat
 | 0 => 0
 | m+1=>if decide (0<f (k+1+m))&&(qi l k (k+1+m)&&(bstD l f k m==0||decide (f (k+1+m)+1<bstD l f k m))) then f (k+1+m)+1 else bstD l f k m
theorem z8b (l:List Ev) (f:Nat→Nat) (k:Nat) : ∀ m,(bstD l f k m=0 → ∀ n,k<n→n≤k+m → 0<f n→qi l k n=false)∧(0<bstD l f k m→(∃ n,k<n∧n≤k+m ∧ 0<f n∧qi l k n=true∧bstD l f k m=f n+1) ∧ ∀ n,k<n→n≤k+m → 0<f n→qi l k n=true→bstD l f k m≤f n+1)
 | 0=>⟨fun _ n h1 h2=>by omega,fun h=>absurd h (Nat.lt_irrefl 0)⟩
 | m+1=>by
  obtain ⟨h1,h2⟩:=z8b l f k m
  rw [bstD]
  by_cases hc:(decide (0<f (k+1+m))&&(qi l k (k+1+m)&&(bstD l f k m==0||decide (f (k+1+m)+1<bstD l f k m))))=true
  ·rw [if_pos hc]
   simp only [Bool.and_eq_true,Bool.or_eq_true,decide_eq_true_eq,beq_iff_eq] at hc
   obtain ⟨c1,c2,c3⟩:=hc
   refine ⟨fun h=>by omega,fun _=>⟨⟨k+1+m,by omega,by omega,c1,c2,rfl⟩,fun n n1 n2 n3 n4=>?_⟩⟩
   by_cases e:n=k+1+m
   ·rw [e];exact Nat.le_refl _
   ·rcases c3 with c3|c3
    ·have:=h1 c3 n n1 (by omega) n3
     rw [this] at n4;cases n4
    ·have:=(h2 (by omega)).2 n n1 (by omega) n3 n4
     omega
  ·rw [if_neg hc]
   have hc' : 0<f (k+1+m)→qi l k (k+1+m)=true → 0<bstD l f k m∧bstD l f k m≤f (k+1+m)+1:=fun a b=>by
    simp only [a,b,decide_true,Bool.true_and,Bool.or_eq_true,decide_eq_true_eq,beq_iff_eq,not_or] at hc
    omega
   refine ⟨fun h n n1 n2 n3=>?_,fun h=>⟨?_,fun n n1 n2 n3 n4=>?_⟩⟩
   ·by_cases e:n=k+1+m
    ·subst e
     cases hi:qi l k (k+1+m) with
     | false=>rfl
     | true=>have:=hc' n3 hi;omega
    ·exact h1 h n n1 (by omega) n3
   ·obtain ⟨⟨n,n1,n2,n3,n4,n5⟩,_⟩:=h2 h
    exact ⟨n,n1,by omega,n3,n4,n5⟩
   ·by_cases e:n=k+1+m
    ·subst e;exact (hc' n3 n4).2
    ·exact (h2 h).2 n n1 (by omega) n3 n4
theorem z4v {l:List Ev} {f:Nat→Nat} {j k:Nat} (hk:k<j) (hf : ∀ n,k<n→n≤j→f n=zO l j n):bstD l f k (j-k)=zO l j k:=by
 obtain ⟨h1,h2⟩:=z8b l f k (j-k)
 symm
 apply z2O
 generalize bstD l f k (j-k)=s at h1 h2
 have hdn : ∀ c,Chn l c k j → ∃ n w,k<n∧n≤j∧qi l k n=true∧f n=w+1∧w+1≤c:=fun c hc=>by
  cases c with
  | zero=>rw [show k=j from hc] at hk;omega
  | succ c =>
   obtain ⟨n,n1,n2,n3⟩:=hc
   have n4:=n3.le
   have n5:=z0B l j n
   rw [← hf n n1 n4] at n5
   cases hv:f n with
   | zero=>rw [hv] at n5;exact absurd n3 (n5 c)
   | succ w =>
    rw [hv] at n5
    exact ⟨n,w,n1,n4,n2,hv,Nat.succ_le_succ (Nat.le_of_not_lt fun h=>n5.2 c h n3)⟩
 cases s with
 | zero =>
  intro c hc
  obtain ⟨n,w,n1,n2,n3,n4,n5⟩:=hdn c hc
  have:=h1 rfl n n1 (by omega) (by omega)
  rw [this] at n3;cases n3
 | succ s =>
  obtain ⟨⟨n,n1,n2,n3,n4,n5⟩,h4⟩:=h2 (Nat.succ_pos s)
  have n6:=z0B l j n
  rw [← hf n n1 (by omega)] at n6
  obtain ⟨w,hw⟩ : ∃ w,f n=w+1:=⟨f n-1,by omega⟩
  rw [hw] at n6 n5
  refine ⟨?_,fun c hc h=>?_⟩
  ·rw [show s=w+1 by omega]
   exact ⟨n,n1,n4,n6.1⟩
  ·obtain ⟨n',w',m1,m2,m3,m4,m5⟩:=hdn c h
   have:=h4 n' m1 (by omega) (by omega) m3
   omega
theorem BfR.fol {l:List Ev} {i j k n:Nat} {g:Nat→Nat} (h:BfR l i j g) (hk:g k=zO l j k) (hi:zO l j k≤g i) (h2 : 2≤zO l j k) (hn:k<n) (hm:qi l k n=true):(g n+1=g k)↔folB l j k n=true:=by
 simp only [folB,Bool.and_eq_true,decide_eq_true_eq,hn,hm,true_and]
 rw [hk]
 constructor
 ·intro e
  rw [z2O (h.ex n (by omega))];exact e
 ·intro e
  have h3:=z0B l j n
  obtain ⟨v,hv⟩ : ∃ v,zO l j n=v+1:=⟨zO l j n-1,by omega⟩
  rw [hv] at h3
  rw [h.yes (by omega) n v (by omega) h3];omega
theorem BfR.val {l:List Ev} {i j a:Nat} {g:Nat→Nat} (h:BfR l i j g) (ha : 0<g a):g a=zO l j a:=(z2O (h.ex a ha)).symm
theorem BfR.cone {l:List Ev} {i j:Nat} {g:Nat→Nat} (h:BfR l i j g) (hi:g i=0) (a:Nat):decide (0<g a)=((a==j)||hbB l j a):=by
 rw [Bool.eq_iff_iff,decide_eq_true_eq,Bool.or_eq_true,beq_iff_eq,← z5S]
 constructor
 ·intro ha;rw [← h.val ha];exact ha
 ·intro ha
  by_cases e:g a=0
  ·rw [z2O (h.no hi a e)] at ha;exact absurd ha (Nat.lt_irrefl 0)
  ·omega
theorem BfR.hit {l:List Ev} {i j:Nat} {g:Nat→Nat} (h:BfR l i j g):g i=zO l j i:=by
 by_cases e:g i=0
 ·rw [z2O (h.no e i e),e]
 ·exact h.val (by omega)
def PlcP (l:List Ev) (i j:Int):Prop:=(qx l).2=true ∧ 0≤i∧i<j∧j<(l.length:Int)
structure ChkP (l:List Ev) (i j:Int) (o:Bool) (ev:List Int):Prop where
 plc:PlcP l i j
 rng : ∀ x ∈ ev,0≤x∧x<(l.length:Int)
 inc : ∀ (k:Nat) a b,ev[k]? = some a→ev[k+1]? = some b→a<b
 fst:o=true→ev[0]? = some i
 lst:o=true→ev[ev.length-1]? = some j
 imm:o=true → ∀ (k:Nat) a b,ev[k]? = some a→ev[k+1]? = some b→qi l a.toNat b.toNat=true
 noI:o=false→i ∉ ev
 hasJ:o=false→j ∈ ev
 cls:o=false → ∀ x ∈ ev,∀ m:Nat,(m:Int)<x→qi l m x.toNat=true→(m:Int) ∈ ev
noncomputable def chkB (l:List Ev) (i j:Int) (o:Bool) (ev:List Int):Bool:=@decide (ChkP l i j o ev) (Classical.propDecidable _)
theorem z1x {l:List Ev} {i j:Int} {o:Bool} {ev:List Int} (h:ChkP l i j o ev):chkB l i j o ev=true:=by
 unfold chkB;exact @decide_eq_true _ (Classical.propDecidable _) h
theorem zV {l:List Ev} {i j:Int} {o:Bool} {ev:List Int} (h : ¬ ChkP l i j o ev):chkB l i j o ev=false:=by
 unfold chkB;exact @decide_eq_false _ (Classical.propDecidable _) h
theorem z9Z {l:List Ev} {i j:Int} {o:Bool} {ev:List Int} : chkB l i j o ev=true↔ChkP l i j o ev:=by
 unfold chkB;exact @decide_eq_true_iff _ (Classical.propDecidable _)
theorem z7t {ev:List Int} (h : ∀ (k:Nat) a b,ev[k]? = some a→ev[k+1]? = some b→a<b) : ∀ (d k:Nat) (a b:Int),ev[k]? = some a→ev[k+1+d]? = some b→a<b
 | 0,k,a,b,ha,hb=>h k a b ha hb
 | d+1,k,a,b,ha,hb=>by
  have hlt:=(List.getElem?_eq_some_iff.1 hb).1
  obtain ⟨c,hc⟩:=zT (show k+1+d<ev.length by omega)
  have h1:=z7t h d k a c ha hc
  have h2:=h (k+1+d) c b hc hb
  omega
theorem ev_chn {l:List Ev} {ev:List Int} {j:Int} (hr : ∀ x ∈ ev,0≤x∧x<(l.length:Int)) (hinc : ∀ (k:Nat) a b,ev[k]? = some a→ev[k+1]? = some b→a<b) (him : ∀ (k:Nat) a b,ev[k]? = some a→ev[k+1]? = some b→qi l a.toNat b.toNat=true) (hl:ev[ev.length-1]? = some j) : ∀ (c k:Nat) (a:Int),k+c+1=ev.length→ev[k]? = some a→Chn l c a.toNat j.toNat
 | 0,k,a,hk,ha=>by
  rw [show ev.length-1=k by omega,ha] at hl
  cases hl;rfl
 | c+1,k,a,hk,ha=>by
  obtain ⟨b,hb⟩:=zT (show k+1<ev.length by omega)
  have h1:=hinc k a b ha hb
  have h2:=him k a b ha hb
  have h3:=hr a (List.mem_of_getElem? ha)
  have h4:=hr b (List.mem_of_getElem? hb)
  exact ⟨b.toNat,by omega,h2,ev_chn hr hinc him hl c (k+1) b (by omega) hb⟩
theorem ChkP.chn {l:List Ev} {i j:Int} {ev:List Int} (h:ChkP l i j true ev):Chn l (ev.length-1) i.toNat j.toNat:=by
 have h1:=(List.getElem?_eq_some_iff.1 (h.fst rfl)).1
 exact ev_chn h.rng h.inc (h.imm rfl) (h.lst rfl) (ev.length-1) 0 i (by omega) (h.fst rfl)
theorem ChkP.yes {l:List Ev} {i j:Int} {ev:List Int} (h:ChkP l i j true ev) : 0<zO l j.toNat i.toNat∧zO l j.toNat i.toNat≤ev.length:=by
 have h1:=(List.getElem?_eq_some_iff.1 (h.fst rfl)).1
 have h2:=h.chn
 have h3:=z0B l j.toNat i.toNat
 cases hv:zO l j.toNat i.toNat with
 | zero=>rw [hv] at h3;exact absurd h2 (h3 _)
 | succ v =>
  rw [hv] at h3
  refine ⟨Nat.succ_pos v,?_⟩
  by_cases e:ev.length-1<v
  ·exact absurd h2 (h3.2 _ e)
  ·omega
theorem ChkP.sub {l:List Ev} {i j:Int} {ev:List Int} (h:ChkP l i j false ev) : ∀ (c a:Nat),Chn l c a j.toNat→(a:Int) ∈ ev
 | 0,a,hc=>by
  have:=h.hasJ rfl
  have hp:=h.plc
  rw [show a=j.toNat from hc,show ((j.toNat:Nat):Int)=j by have:=hp.2.1;have:=hp.2.2.1;omega]
  exact this
 | c+1,a,⟨n,h1,h2,h3⟩=>h.cls rfl n (h.sub c n h3) a (by omega) (by simpa using h2)
theorem ChkP.no {l:List Ev} {i j:Int} {ev:List Int} (h:ChkP l i j false ev):zO l j.toNat i.toNat=0:=by
 cases hv:zO l j.toNat i.toNat with
 | zero=>rfl
 | succ v =>
  have h3:=z0B l j.toNat i.toNat
  rw [hv] at h3
  have:=h.sub v i.toNat h3.1
  rw [show ((i.toNat:Nat):Int)=i by have:=h.plc.2.1;omega] at this
  exact absurd this (h.noI rfl)
theorem ChkP.kind {l:List Ev} {i j:Int} {o:Bool} {ev:List Int} (h:ChkP l i j o ev):o=decide (0<zO l j.toNat i.toNat):=by
 cases o with
 | true=>exact (decide_eq_true h.yes.1).symm
 | false=>rw [h.no];rfl
def zs (r:List Nat):List Int:=r.map fun (a:Nat)=>(a:Int)
theorem zay {r:List Nat} {k:Nat} {a:Int} (h:(zs r)[k]? = some a) : ∃ n,r[k]? = some n∧a=n:=by
 rw [zs,List.getElem?_map] at h
 obtain ⟨n,h1,rfl⟩:=Option.map_eq_some_iff.1 h
 exact ⟨n,h1,rfl⟩
theorem z6a {r:List Nat} {a:Int} (h:a ∈ zs r) : ∃ n,n ∈ r∧a=n:=by
 obtain ⟨n,h1,rfl⟩:=List.mem_map.1 h
 exact ⟨n,h1,rfl⟩
theorem z9q {r:List Nat} {n:Nat} (h:n ∈ r):(n:Int) ∈ zs r:=List.mem_map.2 ⟨n,h,rfl⟩
theorem z9e (l:List Ev) (j:Nat) : ∀ (v k:Nat),zO l j k=v+1 → ∀ (q a b:Nat),(k :: chT l j v k)[q]? = some a→(k :: chT l j v k)[q+1]? = some b→a<b∧qi l a b=true
 | 0,k,hv,q,a,b,ha,hb=>by
  rw [chT] at hb
  simp at hb
 | v+1,k,hv,q,a,b,ha,hb=>by
  have h2 : 2≤zO l j k:=by omega
  have h3:=z2Z h2
  rw [chT] at ha hb
  cases q with
  | zero =>
   simp only [List.getElem?_cons_zero,Option.some.injEq,Nat.zero_add,List.getElem?_cons_succ] at ha hb
   subst ha hb
   exact ⟨z5U h2,z7w h2⟩
  | succ q =>
   rw [List.getElem?_cons_succ] at ha hb
   exact z9e l j v (nxtC l j k) (by omega) q a b ha hb
theorem z9G (l:List Ev) (j:Nat) : ∀ (v k:Nat),zO l j k=v+1→(k :: chT l j v k)[v]? = some j
 | 0,k,hv=>by rw [List.getElem?_cons_zero,z5B hv]
 | v+1,k,hv=>by
  have h3:=z2Z (l:=l) (j:=j) (k:=k) (by omega)
  rw [chT,List.getElem?_cons_succ]
  exact z9G l j v _ (by omega)
theorem chT_le (l:List Ev) (j:Nat) : ∀ (v k:Nat),zO l j k=v+1 → ∀ a ∈ k :: chT l j v k,a≤j
 | 0,k,hv,a,ha=>by
  rw [chT,List.mem_singleton] at ha
  rw [ha,z5B hv];exact Nat.le_refl _
 | v+1,k,hv,a,ha=>by
  have h2 : 2≤zO l j k:=by omega
  have h3:=z2Z h2
  rw [chT] at ha
  rcases List.mem_cons.1 ha with rfl|h
  ·have:=z5U h2;have:=z6I h2;omega
  ·exact chT_le l j v _ (by omega) a h
theorem z3z {l:List Ev} {i j:Nat} (h : 0<zO l j i):(chC l i j).length=zO l j i:=by
 rw [chC,List.length_cons,chT_len];omega
theorem za8 {l:List Ev} {i j:Nat} (hp:PlcP l i j) (h : 0<zO l j i):ChkP l i j true (zs (chC l i j)):=by
 obtain ⟨v,hv⟩ : ∃ v,zO l j i=v+1:=⟨zO l j i-1,by omega⟩
 have he:chC l i j=i :: chT l j v i:=by rw [chC,hv];rfl
 have hl:=z3z h
 refine ⟨hp,fun x hx=>?_,fun k a b ha hb=>?_,fun _=>?_,fun _=>?_,fun _ k a b ha hb=>?_,fun h=>(by cases h),fun h=>(by cases h),fun h=>(by cases h)⟩
 ·obtain ⟨n,h1,rfl⟩:=z6a hx
  rw [he] at h1
  have:=chT_le l j v i hv n h1
  have:=hp.2.2.2
  omega
 ·obtain ⟨m,h1,rfl⟩:=zay ha
  obtain ⟨n,h2,rfl⟩:=zay hb
  rw [he] at h1 h2
  have:=(z9e l j v i hv k m n h1 h2).1
  omega
 ·rw [he];rfl
 ·have:=z9G l j v i hv
  rw [zs,List.getElem?_map,List.length_map,hl,hv,he,Nat.add_sub_cancel,this];rfl
 ·obtain ⟨m,h1,rfl⟩:=zay ha
  obtain ⟨n,h2,rfl⟩:=zay hb
  rw [he] at h1 h2
  simpa using (z9e l j v i hv k m n h1 h2).2
theorem z2v {l:List Ev} (hv:(qx l).2=true) {j:Nat} (hj:j<l.length) {a:Nat} : a ∈ z1z l j↔(a=j∨hbB l j a=true):=by
 have d1:decide ((j:Int)<0)=false:=by simp
 have d2:decide ((l.length:Int)≤(j:Int))=false:=by simp;omega
 unfold z1z
 rw [hv,d1,d2]
 simp only [Bool.not_false,Bool.and_self,if_true,Int.toNat_natCast,List.mem_append,List.mem_singleton,rgF,List.mem_filter,List.mem_range]
 constructor
 ·rintro (⟨_,h⟩|h)
  ·exact .inr h
  ·exact .inl h
 ·rintro (h|h)
  ·exact .inr h
  ·exact .inl ⟨z5m l j a h,h⟩
theorem z8w (p:Nat→Bool) : ∀ (n:Nat),((List.range n).filter p).Pairwise (· < ·):=fun n=>(List.pairwise_lt_range (n:=n)).filter _
theorem coneR_inc {l:List Ev} {j:Nat} : (z1z l j).Pairwise (· < ·):=by
 unfold z1z
 split
 ·rw [Int.toNat_natCast,List.pairwise_append]
  refine ⟨z8w _ _,List.pairwise_singleton _ _,fun a ha b hb=>?_⟩
  rw [List.mem_singleton.1 hb]
  have:=(List.mem_filter.1 ha).1
  exact List.mem_range.1 this
 ·exact List.Pairwise.nil
theorem cone_fits {l:List Ev} {i j:Nat} (hp:PlcP l i j) (h:zO l j i=0):ChkP l i j false (zs (z1z l j)):=by
 have hj:j<l.length:=by have:=hp.2.2.2;omega
 refine ⟨hp,fun x hx=>?_,fun k a b ha hb=>?_,fun h=>(by cases h),fun h=>(by cases h),fun h=>(by cases h),fun _ hx=>?_,fun _=>?_,fun _ x hx m hm hi=>?_⟩
 ·obtain ⟨n,h1,rfl⟩:=z6a hx
  rcases (z2v hp.1 hj).1 h1 with h2|h2
  ·omega
  ·have:=z5m l j n h2;omega
 ·obtain ⟨m,h1,rfl⟩:=zay ha
  obtain ⟨n,h2,rfl⟩:=zay hb
  have h3:=List.pairwise_iff_getElem.1 (coneR_inc (l:=l) (j:=j)) k (k+1) (List.getElem?_eq_some_iff.1 h1).1 (List.getElem?_eq_some_iff.1 h2).1 (by omega)
  rw [(List.getElem?_eq_some_iff.1 h1).2,(List.getElem?_eq_some_iff.1 h2).2] at h3
  omega
 ·obtain ⟨n,h1,h2⟩:=z6a hx
  have h3:n=i:=by omega
  subst h3
  have:=z5S.2 ((z2v hp.1 hj).1 h1)
  omega
 ·exact z9q ((z2v hp.1 hj).2 (.inl rfl))
 ·obtain ⟨n,h1,rfl⟩:=z6a hx
  rw [Int.toNat_natCast] at hi
  have h2:=(z2v hp.1 hj).1 h1
  have hnj:n≤j:=by
   rcases h2 with h2|h2
   ·omega
   ·exact Nat.le_of_lt (z5m l j n h2)
  exact z9q ((z2v hp.1 hj).2 (.inr ((z7h j).2 ⟨n,by omega,hnj,hi,h2⟩)))
end Go.Proofs.Ytdlgoofjechocaa
namespace Go.Proofs.Ytdlgoofjechocaa
open Go.RowKit Go.Sort Go.Maps
theorem zk.newrowA (s:ASt) (t j e0 e n:Nat) (cs:List AV) (hlk:s.hp.lookup t=some (.arow e0 cs)) (hj:cs[j]? = some (.p (.val (.slice none 0 0)))):zk s { s with hp:=(s.N,.row e n []) :: zG s.hp t (.arow e0 (cs.set j (.own s.N))),N:=s.N+1 }:=fun L loc a w hr=>by
 have hb:=Blw.refl w.heap.size w
 have htN:=(hr.hp.at' t _ hlk).1
 have h1:=hr.add hb (.slice none 0 0) (.row e n []) (fun b e=>by cases e) ⟨[],World.ownsRow_nil _ _ _ _,fun r hr=>(by cases hr),fun k r j x h=>(by simp at h),fun v hv=>(by cases hv)⟩
 refine ⟨qj loc s.N (.slice none 0 0),?_,.add hb _ _ (fun b e=>by cases e)⟩
 have hlk2:(s.add (.row e n [])).hp.lookup t=some (.arow e0 cs):=by
  show List.lookup t ((s.N,_) :: s.hp)=_
  rw [zb (by omega)];exact hlk
 have h2:Rel All L { s with hp:=(s.N,.row e n []) :: zG s.hp t (.arow e0 (cs.set j (.own s.N))),N:=s.N+1 } (qj loc s.N (.slice none 0 0)) a w:=by
  refine ⟨h1.defers,h1.size,h1.fr,⟨fun k o hk=>?_,fun k hk=>?_,h1.hp.apart,h1.hp.inL,h1.hp.notL⟩⟩
  ·by_cases ek:k=s.N
   ·subst ek
    rw [zi] at hk;cases hk
    exact h1.hp.at' s.N _ (by show List.lookup s.N ((s.N,_) :: s.hp)=_;rw [zi])
   ·rw [zb ek,zC] at hk
    by_cases et:k=t
    ·subst et
     rw [if_pos rfl,hlk] at hk
     cases hk
     obtain ⟨q0,u,hu,flat,q1,q3,q4⟩:=h1.hp.at' k _ hlk2
     refine ⟨q0,u,hu,flat,by simpa using q1,fun i x hx=>?_,q4⟩
     rw [List.getElem?_set] at hx
     split at hx
     ·rename_i e1
      subst e1
      split at hx
      ·cases hx
       obtain ⟨v,h5,h6⟩:=q3 j _ hj
       refine ⟨v,h5,?_⟩
       have h7:=h6.val
       rw [h7]
       exact .own s.N _ (Nat.lt_succ_self _) rfl fun z hz=>by rw [zI] at hz;cases hz;rfl
      ·cases hx
     ·exact q3 i x hx
    ·rw [if_neg et] at hk
     exact h1.hp.at' k o (by show List.lookup k ((s.N,_) :: s.hp)=_;rw [zb ek];exact hk)
  ·by_cases ek:k=s.N
   ·subst ek;rw [zi] at hk;cases hk
   ·rw [zb ek,zC] at hk
    by_cases et:k=t
    ·subst et;rw [if_pos rfl,hlk] at hk;cases hk
    ·rw [if_neg et] at hk
     exact h1.hp.dead k (by show List.lookup k ((s.N,_) :: s.hp)=_;rw [zb ek];exact hk)
 exact h2
theorem mat_snocL (e n b:Nat) (R:List (List (List PV))) (r:List (List PV)) (k:Nat):(mat e n b (R ++ [r])).lookup k=if k=b+R.length then some (.row e n r) else (mat e n b R).lookup k:=by
 rw [z7O,qP]
 by_cases h:k=b+R.length
 ·subst h
  rw [if_pos rfl,z7d _ _ _ _ _ (Nat.le_refl _),zi];rfl
 ·rw [if_neg h,zb h];simp
theorem zk.nilsA (t e0 e:Nat) (fr:List (Nat × AV)) (m b n:Nat) (H:Hp) (ht:H.lookup t=some (.arow e0 (List.replicate n (.p (.val nilV))))) (htb:t<b) (hH : ∀ k,b≤k→H.lookup k=none) :
  ∀ j,j≤n→zk ⟨fr,H,m,b⟩ ⟨fr,zG H t (.arow e0 (owns b j++List.replicate (n-j) (.p (.val nilV))))++mat e 1 b (List.replicate j []),m,b+j⟩
 | 0,_=>zk.hpe ⟨fr,H,m,b⟩ _ fun k=>by
  rw [qP,zC]
  simp only [owns,List.nil_append,Nat.sub_zero,List.replicate_zero,mat,List.lookup_nil,Option.or_none]
  by_cases h:k=t
  ·subst h;rw [if_pos rfl,ht];rfl
  ·rw [if_neg h]
 | j+1,h=>by
  refine (zk.nilsA t e0 e fr m b n H ht htb hH j (by omega)).trans ?_
  have hlk:List.lookup t (zG H t (.arow e0 (owns b j++List.replicate (n-j) (.p (.val nilV))))++mat e 1 b (List.replicate j []))=some (.arow e0 (owns b j++List.replicate (n-j) (.p (.val nilV)))):=by
   rw [qP,zC,if_pos rfl,ht];rfl
  have hjj:(owns b j++List.replicate (n-j) (AV.p (.val nilV)))[j]? = some (.p (.val (.slice none 0 0))):=by
   rw [List.getElem?_append_right (by rw [qL];exact Nat.le_refl _),qL,Nat.sub_self,List.getElem?_replicate,if_pos (by omega)]
  refine (zk.newrowA _ t j e0 e 1 _ hlk hjj).trans ?_
  have hcs:(owns b j++List.replicate (n-j) (AV.p (.val nilV))).set j (.own (b+j))=owns b (j+1)++List.replicate (n-(j+1)) (.p (.val nilV)):=by
   rw [List.set_append_right _ _ (by rw [qL];exact Nat.le_refl _),qL,Nat.sub_self,show n-j=(n-(j+1))+1 by omega,List.replicate_succ,List.set_cons_zero,z3i,List.append_assoc,Nat.add_comm b j]
   rfl
  simp only [hcs]
  refine zk.hpe _ _ fun k=>?_
  rw [qP,zC,List.replicate_succ',mat_snocL,List.length_replicate]
  by_cases hk:k=t
  ·subst hk
   rw [if_pos rfl,ht,zb (by omega),zC,if_pos rfl,hlk];rfl
  ·rw [if_neg hk]
   by_cases hk2:k=b+j
   ·subst hk2
    rw [if_pos rfl,zi,hH _ (by omega)];rfl
   ·rw [if_neg hk2,zb hk2,zC,if_neg hk,qP,zC,if_neg hk]
theorem zk.z7D (fr:List (Nat × AV)) (m N t0 e0 e:Nat) (T:Hp) : ∀ (R:List (List (List PV))) (b:Nat) (pre:List PV),t0<b →
  (∀ k y,b≤k→k<b+R.length→(fr.map fun p=>(p.1,AV.sub k y p.2))=fr∧(T.map fun p=>(p.1,AO.sub k y p.2))=T∧(T.filter fun p=>p.1 != k)=T) →
  zk ⟨fr,(t0,.arow e0 (pre.map .p++owns b R.length)) :: (mat e 1 b R++T),m,N⟩ ⟨fr,(t0,.arow e0 ((pre++R.map (PV.seq 1)).map .p)) :: T,m,N⟩
 | [],b,pre,hb,_=>by simp only [owns,mat,List.length_nil,List.append_nil,List.map_nil,List.nil_append];exact zk.refl _
 | r :: R,b,pre,hb,hT=>by
  refine (zk.frz _ b).trans ?_
  have hlk:List.lookup b ((t0,AO.arow e0 (pre.map .p++owns b (r :: R).length)) :: (mat e 1 b (r :: R)++T))=some (.row e 1 r):=by
   rw [zb (by omega),mat,List.cons_append,zi]
  have heq:ASt.frz ⟨fr,(t0,.arow e0 (pre.map .p++owns b (r :: R).length)) :: (mat e 1 b (r :: R)++T),m,N⟩ b=⟨fr,(t0,.arow e0 ((pre ++ [PV.seq 1 r]).map .p++owns (b+1) R.length)) :: (mat e 1 (b+1) R++T),m,N⟩:=by
   unfold ASt.frz
   simp only [hlk,ASt.subst]
   obtain ⟨h1,h2,h3⟩:=hT b (.p (.seq 1 r)) (Nat.le_refl _) (by simp)
   rw [h1]
   congr 1
   have hne:(t0 != b)=true:=by simp;omega
   rw [List.map_cons,List.filter_cons,if_pos (by simpa using hne),List.map_append,List.filter_append,h2,h3,z4e,mat,List.filter_cons,if_neg (by simp),z6S _ _ _ _ _ (.inl (by omega)),AO.z1T]
   congr 3
   rw [List.length_cons,owns,List.map_append,List.map_cons,z2H _ _ _ _ (.inl (by omega)),List.map_append,List.append_assoc]
   congr 1
   ·rw [List.map_map];exact List.map_congr_left fun x _=>(by simp [AV.sub])
   ·simp [AV.sub]
  rw [heq]
  refine (zk.z7D fr m N t0 e0 e T R (b+1) (pre ++ [PV.seq 1 r]) (by omega) fun k y h1 h2=>hT k y (by omega) (by simp at h2 ⊢;omega)).trans (by rw [List.append_assoc];exact zk.refl _)
end Go.Proofs.Ytdlgoofjechocaa
