/- Texts Us, Law, Ra, Ug. -/
import Derived.ProofKit
import Derived.HandedShaped
import Derived.OpenShut
import Derived.Test.YtdlgoofjechocaaZ12
set_option maxHeartbeats 32000000
set_option maxRecDepth 100000
set_option linter.unusedSimpArgs false
set_option linter.unusedVariables false
namespace Go.Proofs.Ytdlgoofjechocaa
open Go.RowKit Go.Sort
theorem z2T {l:List Ev} {i j:Int} (h:plcB l i j=true):expX l i j=0:=by unfold expX;rw [if_pos h]
theorem zaN (l:List Ev) (i j:Int) (o:Bool) (ev:List Int):zu Try.prog 7 [.p (.seq 9 (l.map evC)),.int i,.int j,rsnA o ev] (.bool true):=by
 have hw:=z4E
 have hlm:(l.map evC).length=l.length:=by simp
 have hzl:=z2r ev
 refine zu.of Try.func7 rfl 46 rfl (by decide) (by simp [AV.okB,rsnA]) ?_
 simp only [rsnA]
 by_cases hn:l.length≤40
 ·have hg:decide ((40:Int)<(l.length:Int))=false:=by simp;omega
  by_cases he:ev.length≤60
  ·have hge:decide ((60:Int)<(ev.length:Int))=false:=by simp;omega
   have h1:=z7n l i j o ev (by omega) (by omega)
   have h2:=z2m l i j (by omega)
   cases hB:chkB l i j o ev with
   | false =>
    rw [hB] at h1
    simp only [rsnA] at h1
    repeat' (first|refine T.zi fun K hK=>?_|refine T.block ?_|(refine T.reg (by kernel_rfl) fun K' hK'=>?_;simp only [za,zh,List.map_cons,List.map_nil];(repeat' (first|(with_reducible refine WL.fin ?_;refine hK' _ ?_;clear hK' K')|((with_reducible refine WL.step fun K2 hK2=>?_);simp only [simprocAttr,implies_true,amz,tys,hlm,hzl,hg,hge,beq_self_eq_true,Bool.not_true,Bool.not_false];(repeat' (first|with_reducible (first|(refine hK2 _ ?_;clear hK2 K2)|refine And.intro ?_ ?_|intro hb)|((first|(with_reducible apply zg)|(with_reducible apply zk));case h=>exact CallV.plain (Ent.of Try.func9 (by kernel_rfl) rfl) (hw) (by simp [AV.okB]))|((first|(with_reducible apply zg)|(with_reducible apply zk));case h=>exact CallV.plain (Ent.of Try.func15 (by kernel_rfl) rfl) (h1) (by simp [AV.okB]))))))))|refine T.skip ?_|refine T.exit ?_|refine T.ze rfl ?_|refine T.zf rfl ?_|refine T.cond rfl (fun hc=>?_) (fun hc=>?_)|refine T.ret ?_|simp only [zb,z8,reduceIte,Nat.reduceEqDiff]|((repeat ((fail_if_success (refine hK _ ?_));clear hK K));refine hK _ ?_;clear hK K))
    all_goals (refine zx.ret (.inr rfl) Try.results7 ?_;simp only [zw,zo,zn,simprocAttr,implies_true,amz,tys,])
   | true =>
    obtain ⟨hp,hko⟩:=(z7W.1 hB).exp
    rw [hB] at h1
    rw [z2T hp,hko] at h2
    simp only [rsnA] at h1
    simp only [rsnN] at h2
    repeat' (first|refine T.zi fun K hK=>?_|refine T.block ?_|(refine T.reg (by kernel_rfl) fun K' hK'=>?_;simp only [za,zh,List.map_cons,List.map_nil];(repeat' (first|(with_reducible refine WL.fin ?_;refine hK' _ ?_;clear hK' K')|((with_reducible refine WL.step fun K2 hK2=>?_);simp only [simprocAttr,implies_true,amz,tys,hlm,hzl,hg,hge,beq_self_eq_true,Bool.not_true,Bool.not_false];(repeat' (first|with_reducible (first|(refine hK2 _ ?_;clear hK2 K2)|refine And.intro ?_ ?_|intro hb)|((first|(with_reducible apply zg)|(with_reducible apply zk));case h=>exact CallV.plain (Ent.of Try.func9 (by kernel_rfl) rfl) (hw) (by simp [AV.okB]))|((first|(with_reducible apply zg)|(with_reducible apply zk));case h=>exact CallV.plain (Ent.of Try.func15 (by kernel_rfl) rfl) (h1) (by simp [AV.okB]))|((first|(with_reducible apply zg)|(with_reducible apply zk));case h=>exact CallV.plain (Ent.of Try.func10 (by kernel_rfl) rfl) (h2) (by simp [AV.okB]))))))))|refine T.skip ?_|refine T.exit ?_|refine T.ze rfl ?_|refine T.zf rfl ?_|refine T.cond rfl (fun hc=>?_) (fun hc=>?_)|refine T.ret ?_|simp only [zb,z8,reduceIte,Nat.reduceEqDiff]|((repeat ((fail_if_success (refine hK _ ?_));clear hK K));refine hK _ ?_;clear hK K))
    all_goals (refine zx.ret (.inr rfl) Try.results7 ?_;simp only [zw,zo,zn,simprocAttr,implies_true,amz,tys,])
  ·have hge:decide ((60:Int)<(ev.length:Int))=true:=by simp;omega
   repeat' (first|refine T.zi fun K hK=>?_|refine T.block ?_|(refine T.reg (by kernel_rfl) fun K' hK'=>?_;simp only [za,zh,List.map_cons,List.map_nil];(repeat' (first|(with_reducible refine WL.fin ?_;refine hK' _ ?_;clear hK' K')|((with_reducible refine WL.step fun K2 hK2=>?_);simp only [simprocAttr,implies_true,amz,tys,hlm,hzl,hg,hge,Bool.not_true];(repeat' (first|with_reducible (first|(refine hK2 _ ?_;clear hK2 K2)|refine And.intro ?_ ?_|intro hb)|((first|(with_reducible apply zg)|(with_reducible apply zk));case h=>exact CallV.plain (Ent.of Try.func9 (by kernel_rfl) rfl) (hw) (by simp [AV.okB]))))))))|refine T.skip ?_|refine T.exit ?_|refine T.ze rfl ?_|refine T.zf rfl ?_|refine T.cond rfl (fun hc=>?_) (fun hc=>?_)|refine T.ret ?_|simp only [zb,z8,reduceIte,Nat.reduceEqDiff]|((repeat ((fail_if_success (refine hK _ ?_));clear hK K));refine hK _ ?_;clear hK K))
   all_goals (refine zx.ret (.inr rfl) Try.results7 ?_;simp only [zw,zo,zn,simprocAttr,implies_true,amz,tys,])
 ·have hg:decide ((40:Int)<(l.length:Int))=true:=by simp;omega
  repeat' (first|refine T.zi fun K hK=>?_|refine T.block ?_|(refine T.reg (by kernel_rfl) fun K' hK'=>?_;simp only [za,zh,List.map_cons,List.map_nil];(repeat' (first|(with_reducible refine WL.fin ?_;refine hK' _ ?_;clear hK' K')|((with_reducible refine WL.step fun K2 hK2=>?_);simp only [simprocAttr,implies_true,amz,tys,hlm,hzl,hg,Bool.not_true];(repeat' (first|with_reducible (first|(refine hK2 _ ?_;clear hK2 K2)|refine And.intro ?_ ?_|intro hb)|((first|(with_reducible apply zg)|(with_reducible apply zk));case h=>exact CallV.plain (Ent.of Try.func9 (by kernel_rfl) rfl) (hw) (by simp [AV.okB]))))))))|refine T.skip ?_|refine T.exit ?_|refine T.ze rfl ?_|refine T.zf rfl ?_|refine T.cond rfl (fun hc=>?_) (fun hc=>?_)|refine T.ret ?_|simp only [zb,z8,reduceIte,Nat.reduceEqDiff]|((repeat ((fail_if_success (refine hK _ ?_));clear hK K));refine hK _ ?_;clear hK K))
  all_goals (refine zx.ret (.inr rfl) Try.results7 ?_;simp only [zw,zo,zn,simprocAttr,implies_true,amz,tys,])
end Go.Proofs.Ytdlgoofjechocaa
namespace Go.Proofs.Ytdlgoofjechocaa
open Go.RowKit Go.Sort Go.ChangeShapes Go.WideShapes Go.ChangeAt
theorem z4v {P:Program} {w:World} {r:Reach} {base:Nat} {u:TypeId} {v:Value} (hu:P.underlying u=some .bool) (h:Cell.okWide P w r base u v) : ∃ b,v = .bool b:=by
 cases v <;> simp [Cell.okWide,Cell.ok,hu] at h
 exact ⟨_,rfl⟩
theorem z3A {P:Program} {w:World} {r:Reach} {base:Nat} {t:TypeId} {v:Value} {ts:List TypeId} {n:Nat} (hu:(match P.underlying t with|some (.struct _)|some (.array _ _)=>true|_=>false)=true) (hts:P.cellTypes P.depth t=some ts) (hn:P.cellsOf t=n) (hl:ts.length=n)
  (h:Value.okWide P w r base t v) : ∃ cs,v = .agg cs∧cs.size=n ∧ ∀ (i:Nat) x u,cs[i]? = some x→ts[i]? = some u→Cell.okWide P w r base u x:=by
 unfold Value.okWide at h
 have h' : ∃ cs,v = .agg cs∧cs.size=P.cellsOf t∧Row.okWide P w r base t cs:=by
  revert h hu
  cases P.underlying t with
  | none=>intro hu;simp at hu
  | some d=>cases d <;> intro hu <;> first|(simp at hu;done)|exact fun h=>h
 obtain ⟨cs,rfl,hs,ts',hts',_,hc⟩:=h'
 rw [hts] at hts'
 obtain rfl:ts=ts':=Option.some.inj hts'
 refine ⟨cs,rfl,hs.trans hn,fun i x u hx hi=>?_⟩
 obtain ⟨u',hu',hok⟩:=hc i x hx
 have hlt:i<n:=by
  have:=(List.getElem?_eq_some_iff.1 hi).1
  omega
 rw [Nat.mod_eq_of_lt (by omega),hi] at hu'
 obtain rfl:u=u':=Option.some.inj hu'
 exact hok
variable {H:Type} {enc:TypeId × Value→H} {W:World} {base:Nat} {spare:Nat→Bool} {held:Bool}
theorem z14 {r:Reach} {v:Value} (hval:Value.okWide Try.prog W r base 3 v) : ∃ x:Int,IntKind.i64.has x∧v = .int .i64 x:=by
 unfold Value.okWide at hval
 rw [show Try.prog.underlying 3=some (.int .i64) by kernel_rfl] at hval
 cases v <;> simp [Cell.okWide,Cell.ok,show Try.prog.underlying 3=some (.int .i64) by kernel_rfl] at hval
 rename_i k n
 obtain ⟨rfl,h⟩:=hval
 exact ⟨n,h,rfl⟩
variable {H:Type} {enc:TypeId × Value→H} {W:World} {base:Nat}
theorem z3c {r:Reach} {v:Value} {d:DataW H} {p:List MemPlace} (hval:Value.okWide Try.prog W r base 26 v)
  (h:DataW.Trod enc Try.prog W 0 (fun _=>true) true 26 v d p) : ∃ (o:Bool) (ev:List Int),AR 0 (fun _=>False) z4f W (rsnA o ev) v:=by
 obtain ⟨cs,rfl,hs,hc⟩:=z3A (n := 2) (ts := [4,24]) (by kernel_rfl) (by kernel_rfl) (by kernel_rfl) rfl hval
 obtain ⟨l⟩:=cs
 match l,hs with
 | [x0,x1],_ =>
  obtain ⟨o,rfl⟩:=z4v (by kernel_rfl) (hc 0 x0 4 rfl rfl)
  obtain ⟨fuel,h⟩:=h
  obtain ⟨xs,m,_,_,hl,hx,hf⟩:=DataW.trod_struct (P:=Try.prog) (t := 26) rfl h
  have hx' : xs.length=2:=hx
  have f1:=hf 1 _ rfl
  rw [List.getElem?_eq_getElem (by omega)] at f1
  have hci:Try.prog.cellsOf 24=1:=by kernel_rfl
  obtain ⟨ev,v,e,hp⟩:=sl_pr (e := 3) (n := 1) (g:=fun x:Int => [PV.val (.int .i64 x)]) (by kernel_rfl) (by kernel_rfl) (fun _=>rfl) (by omega) (fun m cs y h=>by
   obtain ⟨x,rfl⟩:=z2F h
   exact ⟨x,.cons (.val _ rfl) .nil⟩) f1
  change List.take (Try.prog.cellsOf 24) [x1] = [v] at e
  rw [hci] at e
  simp only [List.take_succ_cons,List.take_zero,List.cons.injEq,and_true] at e
  subst e
  refine ⟨o,ev,.agg _ _ rfl (fun j x hj=>?_) (fun j hj=>?_)⟩
  ·match j,hj with
   | 0,hj=>cases hj;exact .p _ _ (.val _ rfl)
   | 1,hj=>cases hj;exact .p _ _ hp
  ·match j,hj with
   | 0,_=>rfl
   | 1,_=>exact hp.one
end Go.Proofs.Ytdlgoofjechocaa
