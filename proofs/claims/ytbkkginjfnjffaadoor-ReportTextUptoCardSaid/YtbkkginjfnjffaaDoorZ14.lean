/- Texts Or, Ol, On, Om. -/
import Derived.HandedShaped
import Derived.LaidMore
import Derived.Lay
import Derived.Stop.Joined
import Derived.Lib.LaidTab
import Derived.Deep.DeepHandedRow
import Derived.Test.YtbkkginjfnjffaaDoorZ13
set_option maxHeartbeats 32000000
set_option maxRecDepth 100000
set_option linter.unusedSimpArgs false
set_option linter.unusedVariables false
namespace Go.Proofs.YtbkkginjfnjffaaDoor
open Go.RowKit Go.Sort Go.ChangeShapes Go.WideShapes Go.ChangeAt
theorem Tryd.own:ownKnob Tryd.prog.godebug=none:=by kernel_rfl
theorem shape_at {P:Program} {W:World} (hsh:W.ShapedOpen P) {g:Nat} {t:TypeId} (hg:g<P.globals.size) (ht:(((begin P (fun _ _ => 0) default).world.heap[g]?).bind Obj.row?).map (·.2)=some t) : ∃ cs,W.heap[g]? = some (.cells cs t (0,0)):=by
 obtain ⟨⟨zero,t'⟩,h1,rfl⟩:=Option.map_eq_some_iff.1 ht
 obtain ⟨cs,h2,_⟩:=hsh.1 g zero t' hg h1
 exact ⟨cs,h2⟩
theorem block_at {P:Program} {W:World} {name:String} {g:Nat} {t:TypeId} {cs:Array Value} (hg:P.globalNamed name=some g) (hv:W.var? P name=some cs) (hb : ∃ c,W.heap[g]? = some (.cells c t (0,0))):W.heap[g]? = some (.cells cs t (0,0)):=by
 obtain ⟨c,hc⟩:=hb
 unfold World.var? at hv
 rw [hg] at hv
 simp only [Option.bind_some,hc,Option.some.injEq] at hv
 rw [hc,hv]
theorem z1w {W : World} (hL : laidMetH Tryd.prog Rows.reportMergeRow.laid W) (hsh : W.ShapedOpen Tryd.prog) : W.heap[0]? = some (.cells z3q.toArray 159 (0, 0)) := by
  rw [MakeChecks.laidMetH_plain _ _ _ (by kernel_rfl)] at hL
  obtain ⟨ps, ⟨_, _, _, _, _, _, _, _, _, _, ⟨_, _, _, _, _, _, _, _, _, _, ⟨g1, t1, cs1, fu1, p1, q1, a1, a2, a3, a4, _, _⟩, _⟩, _⟩, _⟩ := hL
  obtain rfl := Option.some.inj ((show Tryd.prog.globalNamed "internal/strconv.uint64pow10" = some 0 by kernel_rfl).symm.trans a1)
  obtain rfl := Option.some.inj ((show (Tryd.prog.globals[0]?).map (·.type) = some 159 by kernel_rfl).symm.trans a2)
  have e1 : Rows.laid_internal_strconv_uint64pow10 = (Go.Lib.tabData .u64 Go.Lib.pow10Tab : DataW Unit) := by kernel_rfl
  rw [e1] at a4
  have c1 := Go.Lib.cells_of_tab (n := 20) (e := 124) (by kernel_rfl) (by kernel_rfl) (by kernel_rfl) (by kernel_rfl) a4
  have h1 := block_at (t := 159) a1 a3 (shape_at hsh (by decide +kernel) (by kernel_rfl))
  rw [h1, show cs1 = z3q.toArray from Array.toList_inj.1 (c1.trans rfl)]
def locG:Nat→Option Value:=fun t=>if t=1000000 then some (.pointer (some ⟨0,0,none⟩)) else none
theorem or_plain {N:Nat} {D:Nat→Prop} {loc:Nat→Option Value} {W:World} {g:Nat} {ty:TypeId} {us:List Value} (h:W.heap[g]? = some (.cells us.toArray ty (0,0))) (h1 : ∀ v ∈ us,v.oneCell' = true):OR N D loc W (.pointer (some ⟨g,0,none⟩)) (.boxP (some g) ty (z08 us)) :=
 ⟨g,_,rfl,h,by simp [z08],fun j x hx=>by
  simp only [z08,List.getElem?_map,Option.map_eq_some_iff] at hx
  obtain ⟨v,hv,rfl⟩:=hx
  have:us.toArray.getD j undef=v:=by rw [Array.getD_eq_getD_getElem?,List.getElem?_toArray,hv];rfl
  rw [this]
  exact .qB _ (h1 v (List.mem_of_getElem? hv)),fun j hj=>by
  have hj' : j<us.length:=by simpa using hj
  rw [Array.getD_eq_getD_getElem?,List.getElem?_toArray,List.getElem?_eq_getElem hj']
  exact h1 _ (List.getElem_mem hj'),fun p e=>by cases e;rfl⟩
theorem z7Y : ∀ v ∈ z3q,∃ z,v = .int .u64 z:=fun v hv=>by
 simp only [z3q,List.mem_map] at hv
 obtain ⟨z,_,rfl⟩:=hv
 exact ⟨_,rfl⟩
theorem hrelG {W:World} (h0:W.heap[0]? = some (.cells z3q.toArray 159 (0,0))):HRel (fun _=>False) 1000001 hpG locG W:=by
 have hl : ∀ t u,locG t=some u→t=1000000∧u = .pointer (some ⟨0,0,none⟩):=fun t u h=>by
  unfold locG at h
  split at h
  ·cases h;exact ⟨by assumption,rfl⟩
  ·cases h
 refine ⟨fun t o h=>?_,fun t h=>?_,fun t t' u u' b e1 e2 e3 e4=>?_,fun b h=>h.elim,fun t u b _ _ h=>h⟩
 ·obtain ⟨rfl,rfl⟩:=qo h
  exact ⟨by omega,_,rfl,or_plain h0 fun v hv=>by obtain ⟨z,rfl⟩:=z7Y v hv;rfl⟩
 ·unfold locG
  rw [if_neg]
  rintro rfl
  cases h
 ·obtain ⟨rfl,rfl⟩:=hl t u e1
  obtain ⟨rfl,rfl⟩:=hl t' u' e2
  rfl
theorem u64G {W:World} (h0:W.heap[0]? = some (.cells z3q.toArray 159 (0,0))):U64s (Dm (fun _=>False) locG) W:=fun b hb j v hv=>by
 rcases hb with hb|⟨t,u,e1,e2⟩
 ·exact hb.elim
 ·unfold locG at e1
  split at e1
  ·cases e1
   cases e2
   simp only [World.cell?,h0] at hv
   have:z3q[j]? = some v:=by simpa using hv
   exact z7Y v (List.mem_of_getElem? this)
  ·cases e1
end Go.Proofs.YtbkkginjfnjffaaDoor
namespace Go.Proofs.YtbkkginjfnjffaaDoor
open Go.RowKit Go.Sort Go.Maps
theorem turn_perm (rs:List P2) (k:Nat):((rs.drop k).reverse++rs.take k).Perm rs:=by
 have h1:((rs.drop k).reverse++rs.take k).Perm (rs.drop k++rs.take k):=(List.reverse_perm _).append_right _
 have h2:(rs.drop k++rs.take k).Perm (rs.take k++rs.drop k):=List.perm_append_comm
 rw [List.take_append_drop] at h2
 exact h1.trans h2
theorem free_mem (l:List Ev) (hel : ∀ e ∈ l,EvW e) (ss:List P2) (ps:List Int) (hdw:DW ss ps) (rs:List P2) (m0:Int):MemC Tryd.prog 4 1000001 hpG [trA l ss ps,raA rs,.int m0] fun hp' r'=>hp' = hpG∧r' = .p (.val (.bool true)):=by
 have hA:=z1r
 have hL:=z5t l ss ps rs
 have hrl:=qO rs
 cases hl:lgN l ss ps rs with
 | true =>
  rw [hl] at hL
  simp only [trA,raA] at hL ⊢
  refine MemC.of Tryd.func4 rfl 68 rfl (by decide) ?_;simp only [qK,frOf]
  simp only [hpG]
  repeat' (first|refine T.zk fun K hK=>?_|apply T.block|(refine T.reg (by kernel_rfl) fun K' hK'=>?_;simp only [bz];(repeat' (first|(with_reducible refine WL.fin ?_;apply hK';clear hK' K')|((with_reducible refine WL.step fun K2 hK2=>?_);simp only [simprocAttr,implies_true,amz,zb,tys,Bool.not_true,Bool.true_eq_false];(repeat' (first|with_reducible (first|(apply hK2;clear hK2 K2)|apply And.intro|intro hb)|((with_reducible first|apply zh|apply zl);case h=>exact CallV.read 1000001 hpG _ rfl (Ent.of Tryd.func8 (by kernel_rfl) rfl) (hA) (z0t (by decide) (fun t o ho=>by obtain ⟨rfl,rfl⟩:=qo ho;simp [zm])) (by simp [AV.okB]) rfl)|((with_reducible first|apply zh|apply zl);case h=>exact CallV.plain (Ent.of Tryd.func9 (by kernel_rfl) rfl) (hL) (by simp [AV.okB]))))))))|apply T.skip|apply T.exit|refine T.zf rfl ?_|refine T.ze rfl ?_|refine T.cond rfl (fun hc=>?_) (fun hc=>?_)|apply T.ret|simp only [za,z8,reduceIte,Nat.reduceEqDiff]|((repeat ((fail_if_success apply hK);clear hK K));apply hK;clear hK K))
  all_goals (refine FinM.ret (s':=⟨[(6,.p (.val (.bool true)))],hpG,68,1000001⟩) (r := .p (.val (.bool true))) (.inr rfl) Tryd.results4 (by refine zi.of' rfl ?_;simp only [wks,reduceIte,Nat.reduceEqDiff,ASt.okB,AV.okB,Nat.reduceLT,implies_true,hpG,zo]) rfl ?_ ?_;(focus (simp only [zR,zA,zB,simprocAttr,implies_true,amz,zb,tys,];done)))
  all_goals exact ⟨rfl,rfl⟩
 | false =>
  rw [hl] at hL
  obtain ⟨_,b2,_,b4⟩:=z4q hl
  by_cases hm1:m0<0
  ·have g1:decide (m0<0)=true:=by simpa using hm1
   simp only [trA,raA] at hL ⊢
   refine MemC.of Tryd.func4 rfl 68 rfl (by decide) ?_;simp only [qK,frOf]
   simp only [hpG]
   repeat' (first|refine T.zk fun K hK=>?_|apply T.block|(refine T.reg (by kernel_rfl) fun K' hK'=>?_;simp only [bz];(repeat' (first|(with_reducible refine WL.fin ?_;apply hK';clear hK' K')|((with_reducible refine WL.step fun K2 hK2=>?_);simp only [simprocAttr,implies_true,amz,zb,tys,g1,hrl,Bool.not_true,Bool.true_eq_false,Bool.false_eq_true];(repeat' (first|with_reducible (first|(apply hK2;clear hK2 K2)|apply And.intro|intro hb)|((with_reducible first|apply zh|apply zl);case h=>exact CallV.read 1000001 hpG _ rfl (Ent.of Tryd.func8 (by kernel_rfl) rfl) (hA) (z0t (by decide) (fun t o ho=>by obtain ⟨rfl,rfl⟩:=qo ho;simp [zm])) (by simp [AV.okB]) rfl)|((with_reducible first|apply zh|apply zl);case h=>exact CallV.plain (Ent.of Tryd.func9 (by kernel_rfl) rfl) (hL) (by simp [AV.okB]))))))))|apply T.skip|apply T.exit|refine T.zf rfl ?_|refine T.ze rfl ?_|refine T.cond rfl (fun hc=>?_) (fun hc=>?_)|apply T.ret|simp only [za,z8,reduceIte,Nat.reduceEqDiff]|((repeat ((fail_if_success apply hK);clear hK K));apply hK;clear hK K))
   all_goals (refine FinM.ret (s':=⟨[(6,.p (.val (.bool true)))],hpG,68,1000001⟩) (r := .p (.val (.bool true))) (.inr rfl) Tryd.results4 (by refine zi.of' rfl ?_;simp only [wks,reduceIte,Nat.reduceEqDiff,ASt.okB,AV.okB,Nat.reduceLT,implies_true,hpG,zo]) rfl ?_ ?_;(focus (simp only [zR,zA,zB,simprocAttr,implies_true,amz,zb,tys,];done)))
   all_goals exact ⟨rfl,rfl⟩
  have g1:decide (m0<0)=false:=by simpa using hm1
  by_cases hm2:(rs.length:Int)<m0
  ·have g2:decide ((rs.length:Int)<m0)=true:=by simpa using hm2
   simp only [trA,raA] at hL ⊢
   refine MemC.of Tryd.func4 rfl 68 rfl (by decide) ?_;simp only [qK,frOf]
   simp only [hpG]
   repeat' (first|refine T.zk fun K hK=>?_|apply T.block|(refine T.reg (by kernel_rfl) fun K' hK'=>?_;simp only [bz];(repeat' (first|(with_reducible refine WL.fin ?_;apply hK';clear hK' K')|((with_reducible refine WL.step fun K2 hK2=>?_);simp only [simprocAttr,implies_true,amz,zb,tys,g1,g2,hrl,Bool.not_true,Bool.true_eq_false,Bool.false_eq_true];(repeat' (first|with_reducible (first|(apply hK2;clear hK2 K2)|apply And.intro|intro hb)|((with_reducible first|apply zh|apply zl);case h=>exact CallV.read 1000001 hpG _ rfl (Ent.of Tryd.func8 (by kernel_rfl) rfl) (hA) (z0t (by decide) (fun t o ho=>by obtain ⟨rfl,rfl⟩:=qo ho;simp [zm])) (by simp [AV.okB]) rfl)|((with_reducible first|apply zh|apply zl);case h=>exact CallV.plain (Ent.of Tryd.func9 (by kernel_rfl) rfl) (hL) (by simp [AV.okB]))))))))|apply T.skip|apply T.exit|refine T.zf rfl ?_|refine T.ze rfl ?_|refine T.cond rfl (fun hc=>?_) (fun hc=>?_)|apply T.ret|simp only [za,z8,reduceIte,Nat.reduceEqDiff]|((repeat ((fail_if_success apply hK);clear hK K));apply hK;clear hK K))
   all_goals (refine FinM.ret (s':=⟨[(6,.p (.val (.bool true)))],hpG,68,1000001⟩) (r := .p (.val (.bool true))) (.inr rfl) Tryd.results4 (by refine zi.of' rfl ?_;simp only [wks,reduceIte,Nat.reduceEqDiff,ASt.okB,AV.okB,Nat.reduceLT,implies_true,hpG,zo]) rfl ?_ ?_;(focus (simp only [zR,zA,zB,simprocAttr,implies_true,amz,zb,tys,];done)))
   all_goals exact ⟨rfl,rfl⟩
  have g2:decide ((rs.length:Int)<m0)=false:=by simpa using hm2
  have hM:=z1x l hel ss ps hdw (by omega) rs (by omega)
  have hp:=turn_perm rs m0.toNat
  have hN:=z1x l hel ss ps hdw (by omega) ((rs.drop m0.toNat).reverse++rs.take m0.toNat) (by rw [hp.length_eq];omega)
  have hS:=z5M (outM l ss ps rs) (by have:=z5D l ss ps rs;omega) (fun x hx=>by have:=z7l l ss ps rs x hx;omega)
  rw [merA,out_perm l ss ps hp,err_eq l ss ps (fun r=>hp.mem_iff)] at hN
  have w1:IntKind.i64.wrap ((rs.length:Int)-1)=(rs.length:Int)-1:=by rw [IntKind.wrap_i64];omega
  have hx1:(1≤maxLen)=True:=eq_true (by unfold maxLen;omega)
  simp only [trA,raA,merA] at hL hM hN ⊢
  refine MemC.of Tryd.func4 rfl 68 rfl (by decide) ?_;simp only [qK,frOf]
  simp only [hpG]
  repeat' (first|refine T.zk fun K hK=>?_|apply T.block|(refine T.reg (by kernel_rfl) fun K' hK'=>?_;simp only [bz];(repeat' (first|(with_reducible refine WL.fin ?_;apply hK';clear hK' K')|((with_reducible refine WL.step fun K2 hK2=>?_);simp only [simprocAttr,implies_true,amz,zb,tys,g1,g2,hrl,w1,Bool.not_true,Bool.not_false,Bool.false_eq_true];(repeat' (first|with_reducible (first|(apply hK2;clear hK2 K2)|apply And.intro|intro hb)|((with_reducible first|apply zh|apply zl);case h=>exact CallV.read 1000001 hpG _ rfl (Ent.of Tryd.func8 (by kernel_rfl) rfl) (hA) (z0t (by decide) (fun t o ho=>by obtain ⟨rfl,rfl⟩:=qo ho;simp [zm])) (by simp [AV.okB]) rfl)|((with_reducible first|apply zh|apply zl);case h=>exact CallV.plain (Ent.of Tryd.func9 (by kernel_rfl) rfl) (hL) (by simp [AV.okB]))))))))|apply T.skip|apply T.exit|refine T.zf rfl ?_|refine T.ze rfl ?_|refine T.cond rfl (fun hc=>?_) (fun hc=>?_)|apply T.ret|simp only [za,z8,reduceIte,Nat.reduceEqDiff]|((repeat ((fail_if_success apply hK);clear hK K));apply hK;clear hK K))
  refine T.weak (zi.z6w _ 7 38 2 (show 7<68 by decide) rfl) ?_;simp only [ASt.add,z0E,Nat.reduceAdd]
  refine T.z0o (fun i:Int × List P2=>⟨[(1,.p (.seq 2 (rowP rs))),(2,.int m0),(3,.ptr 1000001 0),(6,.bool false),(7,.own 1000002),(8,.int i.1)],[(1000002,.row 38 2 (rowP i.2)),(1000001,.boxP none 28 [.p (.seq 9 (l.map evC)),.p (.seq 2 (rowP ss)),.p (.seq 1 (rowZ ps))]),(1000000,.boxP (some 0) 159 (z08 z3q))],68,1000003⟩) (fun i=>m0-1≤i.1∧i.1<rs.length∧i.2=(rs.drop (i.1+1).toNat).reverse) (fun i=>(i.1+1).toNat) ((rs.length:Int)-1,[]) ⟨by simp only [];omega,by simp only [];omega,by simp⟩ (by refine zi.of' rfl ?_;simp only [wks,reduceIte,Nat.reduceEqDiff,ASt.okB,AV.okB,Nat.reduceLT,implies_true,rowP,List.map_nil,zo]) ?_
  rintro ⟨m,acc⟩ ⟨h1,h2,hu⟩ KL hKL
  simp only at h1 h2 hu ⊢
  have hul:acc.length≤60:=by rw [hu,List.length_reverse,List.length_drop];omega
  have hal:=qO acc
  by_cases hd:m0≤m
  ·have d1:decide (m0≤m)=true:=by simpa using hd
   have hm0:(0≤m)=True:=eq_true (by omega)
   obtain ⟨r,hr⟩:=z01 (l:=rs) (k:=m.toNat) (by omega)
   have r1:=z0e hr
   have hb1:(acc.length+1≤maxLen)=True:=eq_true (by unfold maxLen;omega)
   have hb2:((acc.length+1)*16≤140737488355328)=True:=eq_true (by omega)
   have w2:IntKind.i64.wrap (m-1)=m-1:=by rw [IntKind.wrap_i64];omega
   repeat' (first|refine T.zk fun K hK=>?_|apply T.block|(refine T.reg (by kernel_rfl) fun K' hK'=>?_;simp only [bz];(with_reducible repeat' (first|(apply WL.fin;apply hK';clear hK' K')|(refine WL.step fun K2 hK2=>?_;simp only [simprocAttr,implies_true,amz,zb,tys,d1,hm0,r1,w2,hx1,hal,hb1,hb2,List.length_cons,List.length_nil,z6J];repeat' (first|(apply hK2;clear hK2 K2)|apply And.intro|intro hb)))))|apply T.skip|apply T.exit|refine T.zf rfl ?_|refine T.ze rfl ?_|refine T.cond rfl (fun hc=>?_) (fun hc=>?_)|apply T.ret|simp only [za,z8,reduceIte,Nat.reduceEqDiff]|((repeat ((fail_if_success apply hK);clear hK K));apply hK;clear hK K))
   refine hKL _ (m-1,acc ++ [r]) (by refine zi.of' rfl ?_;simp only [wks,reduceIte,Nat.reduceEqDiff,ASt.okB,AV.okB,Nat.reduceLT,implies_true,zo,subC]) ⟨by simp only [];omega,by simp only [];omega,?_⟩ (by simp only [];omega)
   simp only []
   rw [hu,show (m-1+1).toNat=m.toNat by omega,drop_at hr,List.reverse_cons,show (m+1).toNat=m.toNat+1 by omega]
  ·have d1:decide (m0≤m)=false:=by simpa using hd
   have hu2:acc=(rs.drop m0.toNat).reverse:=by rw [hu,show m+1=m0 by omega]
   have hm0:(0≤m0)=True:=eq_true (by omega)
   have hm3:(m0≤rs.length)=True:=eq_true (by omega)
   have hk:m0.toNat≤rs.length:=by omega
   have htk:(rs.take m0.toNat).length=m0.toNat:=by rw [List.length_take];omega
   rw [← hu2] at hN
   have hlt:(List.take m0.toNat (rowP rs)).length=m0.toNat:=by rw [List.length_take,hrl];omega
   have hb3:(acc.length+m0.toNat≤maxLen)=True:=eq_true (by unfold maxLen;omega)
   have hb4:((acc.length+m0.toNat)*16≤140737488355328)=True:=eq_true (by omega)
   have hrw:rowP acc++List.take m0.toNat (rowP rs)=rowP (acc++rs.take m0.toNat):=by simp [rowP,List.map_take]
   repeat' (first|refine T.zk fun K hK=>?_|apply T.block|apply T.skip|apply T.exit|refine T.zf rfl ?_|refine T.ze rfl ?_|refine T.cond rfl (fun hc=>?_) (fun hc=>?_)|apply T.ret|simp only [za,z8,reduceIte,Nat.reduceEqDiff]|((repeat ((fail_if_success apply hK);clear hK K));apply hK;clear hK K))
   (refine T.reg (by kernel_rfl) fun K' hK'=>?_;simp only [bz];(with_reducible repeat' (first|(apply WL.fin;apply hK';clear hK' K')|(refine WL.step fun K2 hK2=>?_;simp only [simprocAttr,implies_true,amz,zb,tys,d1];repeat' (first|(apply hK2;clear hK2 K2)|apply And.intro|intro hb))));all_goals ((try simp only [za,z8,reduceIte,Nat.reduceEqDiff]);(try ((repeat ((fail_if_success apply hK);clear hK K));apply hK;clear hK K))))
   repeat' (first|refine T.zk fun K hK=>?_|apply T.block|apply T.skip|apply T.exit|refine T.zf rfl ?_|refine T.ze rfl ?_|refine T.cond rfl (fun hc=>?_) (fun hc=>?_)|apply T.ret|simp only [za,z8,reduceIte,Nat.reduceEqDiff]|((repeat ((fail_if_success apply hK);clear hK K));apply hK;clear hK K))
   (refine T.reg (by kernel_rfl) fun K' hK'=>?_;simp only [bz];(with_reducible repeat' (first|(apply WL.fin;apply hK';clear hK' K')|(refine WL.step fun K2 hK2=>?_;simp only [simprocAttr,implies_true,amz,zb,tys,hm0,hm3,hk,hal,hrl,hlt,hb3,hb4];repeat' (first|(apply hK2;clear hK2 K2)|apply And.intro|intro hb))));all_goals ((try simp only [za,z8,reduceIte,Nat.reduceEqDiff]);(try ((repeat ((fail_if_success apply hK);clear hK K));apply hK;clear hK K))))
   refine T.weak (zi.frz _ 1000002) ?_;simp only [ASt.frz,List.filter_cons,List.filter_nil,bne_self_eq_false,Nat.reduceBneDiff,Bool.false_eq_true,simprocAttr,implies_true,amz,zb,tys,subC,hrw]
   repeat' (first|refine T.zk fun K hK=>?_|apply T.block|(refine T.reg (by kernel_rfl) fun K' hK'=>?_;simp only [bz];(repeat' (first|(with_reducible refine WL.fin ?_;apply hK';clear hK' K')|((with_reducible refine WL.step fun K2 hK2=>?_);simp only [simprocAttr,implies_true,amz,zb,tys,beq_self_eq_true,Bool.true_eq_false];(repeat' (first|with_reducible (first|(apply hK2;clear hK2 K2)|apply And.intro|intro hb)|((with_reducible first|apply zh|apply zl);case h=>exact CallV.plain (Ent.of Tryd.func10 (by kernel_rfl) rfl) (hM) (by simp [AV.okB]))|((with_reducible first|apply zh|apply zl);case h=>exact CallV.plain (Ent.of Tryd.func10 (by kernel_rfl) rfl) (hN) (by simp [AV.okB]))|((with_reducible first|apply zh|apply zl);case h=>exact CallV.plain (Ent.of Tryd.func12 (by kernel_rfl) rfl) (hS) (by simp [AV.okB]))))))))|apply T.skip|apply T.exit|refine T.zf rfl ?_|refine T.ze rfl ?_|refine T.cond rfl (fun hc=>?_) (fun hc=>?_)|apply T.ret|simp only [za,z8,reduceIte,Nat.reduceEqDiff]|((repeat ((fail_if_success apply hK);clear hK K));apply hK;clear hK K))
   all_goals (refine FinM.ret (s':=⟨[(6,.p (.val (.bool true)))],hpG,68,1000001⟩) (r := .p (.val (.bool true))) (.inr rfl) Tryd.results4 (by refine zi.of' rfl ?_;simp only [wks,reduceIte,Nat.reduceEqDiff,ASt.okB,AV.okB,Nat.reduceLT,implies_true,hpG,zo]) rfl ?_ ?_;(focus (simp only [zR,zA,zB,simprocAttr,implies_true,amz,zb,tys,];done)))
   all_goals exact ⟨rfl,rfl⟩
theorem z1P (t:Nat) (y:AV) (c:Bool) (a b:AV):AV.sub t y (bif c then a else b)=bif c then AV.sub t y a else AV.sub t y b:=by cases c <;> rfl
theorem rowP_app (a b:List P2):rowP a++rowP b=rowP (a++b):=by simp [rowP]
def mixR (o:List Rep) (k:Nat):List Rep:=(o.take k).map dblR++o.drop k
theorem mixR_len (o:List Rep) (k:Nat):(mixR o k).length=o.length:=by simp only [mixR,List.length_append,List.length_map,List.length_take,List.length_drop];omega
theorem mixR_end (o:List Rep):mixR o o.length=o.map dblR:=by simp [mixR]
theorem mixR_at {o:List Rep} {k:Nat} {x:Rep} (h:o[k]? = some x):(mixR o k)[k]? = some x:=by
 have hk:=(List.getElem?_eq_some_iff.1 h).1
 rw [mixR,List.getElem?_append_right (by simp;omega),List.length_map,List.length_take,List.getElem?_drop,show k+(k-min k o.length)=k by omega,h]
theorem mixR_set {o:List Rep} {k:Nat} {x:Rep} (h:o[k]? = some x):(mixR o k).set k (dblR x)=mixR o (k+1):=by
 have hk:=(List.getElem?_eq_some_iff.1 h).1
 have h1:((o.take k).map dblR).length=k:=by simp;omega
 unfold mixR
 rw [drop_at h,List.set_append_right _ _ (by omega),h1,Nat.sub_self,List.set_cons_zero,List.take_add_one,h,Option.toList_some,List.map_append,List.append_assoc]
 rfl
theorem mixR_rows {o:List Rep} {k:Nat} {x:Rep} (h:o[k]? = some x):((mixR o k).map qJ).set k [.val (.int .i64 x.obj),.val (.int .i64 x.off),.val (.int .i64 x.k1),.val (.int .i64 x.k2),.seq 2 (rowP x.s1),.seq 2 (rowP x.s2),.val (.int .i64 (x.cnt*2))]=(mixR o (k+1)).map qJ:=by
 rw [← mixR_set h,List.map_set];rfl
def stDb (l:List Ev) (ss:List P2) (ps:List Int) (rs:List P2) (o:List Rep) (e:Int) (b:Nat→Bool):ASt:=⟨(23,bif b 0 then (.agg [.p (.seq 9 (l.map evC)),.p (.seq 2 (rowP ss)),.p (.seq 1 (rowZ ps))]) else .zn) :: (24,bif (b 1 && !b 3) then .own 1000002 else .zn) :: (25,bif b 2 then (.p (.seq 2 (rowP rs))) else .zn) :: (26,bif (b 3 && !b 5) then .own 1000002 else .zn) :: (27,bif b 4 then (.p (.seq 2 (rowP rs))) else .zn) :: (28,bif b 5 then .p (.seq 2 (rowP (rs++rs))) else .zn) :: (29,bif b 6 then .tup [(.p (.seq 7 ((o.map dblR).map qJ))),(.int e)] else .zn) :: (22,bif b 7 then .tup [(.p (.seq 7 ((o.map dblR).map qJ))),(.int e)] else .zn) :: (30,bif b 8 then (.p (.seq 7 ((o.map dblR).map qJ))) else .zn) :: (31,bif b 9 then (.int e) else .zn) :: (7,bif b 10 then (.p (.seq 7 ((o.map dblR).map qJ))) else .zn) :: (8,bif b 11 then (.int e) else .zn) :: [(1,(.p (.seq 2 (rowP rs)))),(2,.ptr 1000001 0),(4,.bool false),(5,.p (.seq 7 (o.map qJ))),(6,.int e)],(bif (b 1 && !b 5) then [(1000002,AO.row 38 2 (bif b 3 then rowP rs else []))] else []) ++ [(1000001,AO.boxP none 28 [.p (.seq 9 (l.map evC)),.p (.seq 2 (rowP ss)),.p (.seq 1 (rowZ ps))]),(1000000,AO.boxP (some 0) 159 (z08 z3q))],62,1000003⟩
theorem z7a (l:List Ev) (hel : ∀ e ∈ l,EvW e) (ss:List P2) (ps:List Int) (hdw:DW ss ps) (rs:List P2):MemC Tryd.prog 5 1000001 hpG [trA l ss ps,raA rs] fun hp' r'=>hp' = hpG∧r' = .p (.val (.bool true)):=by
 have hA:=z1r
 have hL:=z5t l ss ps rs
 have hrl:=qO rs
 cases hl:lgN l ss ps rs with
 | true =>
  rw [hl] at hL
  simp only [trA,raA] at hL ⊢
  refine MemC.of Tryd.func5 rfl 62 rfl (by decide) ?_;simp only [qK,frOf]
  simp only [hpG]
  repeat' (first|refine T.zk fun K hK=>?_|apply T.block|(refine T.reg (by kernel_rfl) fun K' hK'=>?_;simp only [bz];(repeat' (first|(with_reducible refine WL.fin ?_;apply hK';clear hK' K')|((with_reducible refine WL.step fun K2 hK2=>?_);simp only [simprocAttr,implies_true,amz,zb,tys,Bool.not_true,Bool.true_eq_false];(repeat' (first|with_reducible (first|(apply hK2;clear hK2 K2)|apply And.intro|intro hb)|((with_reducible first|apply zh|apply zl);case h=>exact CallV.read 1000001 hpG _ rfl (Ent.of Tryd.func8 (by kernel_rfl) rfl) (hA) (z0t (by decide) (fun t o ho=>by obtain ⟨rfl,rfl⟩:=qo ho;simp [zm])) (by simp [AV.okB]) rfl)|((with_reducible first|apply zh|apply zl);case h=>exact CallV.plain (Ent.of Tryd.func9 (by kernel_rfl) rfl) (hL) (by simp [AV.okB]))))))))|apply T.skip|apply T.exit|refine T.zf rfl ?_|refine T.ze rfl ?_|refine T.cond rfl (fun hc=>?_) (fun hc=>?_)|apply T.ret|simp only [za,z8,reduceIte,Nat.reduceEqDiff]|((repeat ((fail_if_success apply hK);clear hK K));apply hK;clear hK K))
  all_goals (refine FinM.ret (s':=⟨[(4,.p (.val (.bool true)))],hpG,62,1000001⟩) (r := .p (.val (.bool true))) (.inr rfl) Tryd.results5 (by refine zi.of' rfl ?_;simp only [wks,reduceIte,Nat.reduceEqDiff,ASt.okB,AV.okB,Nat.reduceLT,implies_true,hpG,zo]) rfl ?_ ?_;(focus (simp only [zR,zA,zB,simprocAttr,implies_true,amz,zb,tys,];done)))
  all_goals exact ⟨rfl,rfl⟩
 | false =>
  rw [hl] at hL
  obtain ⟨_,b2,_,b4⟩:=z4q hl
  have hM:=z1x l hel ss ps hdw (by omega) rs (by omega)
  have hN:=z1x l hel ss ps hdw (by omega) (rs++rs) (by rw [List.length_append];omega)
  have hol:=z5D l ss ps rs
  have hoc:=out_cnt l ss ps rs
  have hS:=z5M (outM l ss ps (rs++rs)) (by have:=z5D l ss ps (rs++rs);rw [List.length_append] at this;omega) (fun x hx=>by have:=z7l l ss ps (rs++rs) x hx;omega)
  rw [merA,out_two,err_eq l ss ps (a:=rs++rs) (b:=rs) (fun r=>by rw [List.mem_append,or_self])] at hN
  rw [out_two] at hS
  rw [merA] at hM
  generalize outM l ss ps rs=o at hM hN hS hol hoc
  have hl1:(o.map qJ).length=o.length:=by simp
  have hl2:((o.map dblR).map qJ).length=o.length:=by simp
  have hx1:(rs.length≤maxLen)=True:=eq_true (by unfold maxLen;omega)
  have hx2:(rs.length*16≤140737488355328)=True:=eq_true (by omega)
  have hx3:(rs.length+rs.length≤maxLen)=True:=eq_true (by unfold maxLen;omega)
  have hx4:((rs.length+rs.length)*16≤140737488355328)=True:=eq_true (by omega)
  have hx5:(o.length≤maxLen)=True:=eq_true (by unfold maxLen;omega)
  have hx6:(o.length*88≤140737488355328)=True:=eq_true (by omega)
  simp only [trA,raA] at hL hM hN ⊢
  refine MemC.of Tryd.func5 rfl 62 rfl (by decide) ?_;simp only [qK,frOf]
  simp only [hpG]
  repeat' (first|refine T.zk fun K hK=>?_|apply T.block|(refine T.reg (by kernel_rfl) fun K' hK'=>?_;simp only [bz];(repeat' (first|(with_reducible refine WL.fin ?_;apply hK';clear hK' K')|((with_reducible refine WL.step fun K2 hK2=>?_);simp only [simprocAttr,implies_true,amz,zb,tys,Bool.not_true,Bool.not_false,Bool.false_eq_true];(repeat' (first|with_reducible (first|(apply hK2;clear hK2 K2)|apply And.intro|intro hb)|((with_reducible first|apply zh|apply zl);case h=>exact CallV.read 1000001 hpG _ rfl (Ent.of Tryd.func8 (by kernel_rfl) rfl) (hA) (z0t (by decide) (fun t o ho=>by obtain ⟨rfl,rfl⟩:=qo ho;simp [zm])) (by simp [AV.okB]) rfl)|((with_reducible first|apply zh|apply zl);case h=>exact CallV.plain (Ent.of Tryd.func9 (by kernel_rfl) rfl) (hL) (by simp [AV.okB]))|((with_reducible first|apply zh|apply zl);case h=>exact CallV.plain (Ent.of Tryd.func10 (by kernel_rfl) rfl) (hM) (by simp [AV.okB]))))))))|apply T.skip|apply T.exit|refine T.zf rfl ?_|refine T.ze rfl ?_|refine T.cond rfl (fun hc=>?_) (fun hc=>?_)|apply T.ret|simp only [za,z8,reduceIte,Nat.reduceEqDiff]|((repeat ((fail_if_success apply hK);clear hK K));apply hK;clear hK K))
  --MARK
  refine T.inv (stDb l ss ps rs o (errM l ss ps rs)) (by kernel_rfl) (by kernel_rfl) ?_ (fun b hcl=>?_) fun K' hK'=>?_
  ·simp only [stDb,Bool.and_true,Bool.false_and,cond_false,List.nil_append];refine zi.of' rfl ?_;simp only [wks,reduceIte,Nat.reduceEqDiff,ASt.okB,AV.okB,AO.zH,AO.z0d,AV.zN,AV.z2g,List.all_cons,List.all_nil,Nat.reduceLT,implies_true,List.nil_append,List.cons_append,cond_true,cond_false,and_self,zM,zQ,Bool.cond_self,Bool.and_self,AV.zF,AV.zW,AV.zD,AV.zq,AV.zZ,AV.zC,AV.qj,List.map_cons,List.map_nil,lkc,reduceCtorEq,zo,renC,subC,z1P,AV.z5S,AV.z1h,AV.z2l,AV.z1o,AV.z1p]
  ·simp only [allL,Nat.reduceAdd]
   refine ⟨fun hb hd=>?_,fun hb hd=>?_,fun hb hd=>?_,fun hb hd=>?_,fun hb hd=>?_,fun hb hd=>?_,fun hb hd=>?_,fun hb hd=>?_,fun hb hd=>?_,fun hb hd=>?_,fun hb hd=>?_,fun hb hd=>?_,trivial⟩
   ·refine ⟨by trivial,by simp [zx,stDb],?_⟩
    simp only [simprocAttr,implies_true,amz,zb,tys,hrl,hx1,hx2,hx3,hx4,lkc,zS,Nat.reduceBEq,Bool.false_or,Bool.true_or,Bool.not_true,Bool.not_false,Bool.and_true,Bool.true_and,Bool.and_false,Bool.false_and,cond_true,cond_false,List.nil_append,List.cons_append,List.length_append,stDb,hb]
    all_goals (repeat' (first|((with_reducible first|apply zh|apply zl);case h=>exact CallV.plain (Ent.of Tryd.func10 (by kernel_rfl) rfl) (hN) (by simp [AV.okB]))|(with_reducible refine And.intro ?_ ?_)))
    all_goals (refine zi.slots ?_;simp only [wks,reduceIte,Nat.reduceEqDiff,implies_true,cond_true,and_self])
   ·have n3:b 3=false:=by
     cases h:b 3 with
     | false=>rfl
     | true=>have h4:=zg (hcl 3 (by decide) h) (j := 1) (by decide) (by kernel_rfl);rw [hb] at h4;cases h4
    have n5:b 5=false:=by
     cases h:b 5 with
     | false=>rfl
     | true=>have h4:=zg (hcl 5 (by decide) h) (j := 3) (by decide) (by kernel_rfl);rw [n3] at h4;cases h4
    have n6:b 6=false:=by
     cases h:b 6 with
     | false=>rfl
     | true=>have h4:=zg (hcl 6 (by decide) h) (j := 5) (by decide) (by kernel_rfl);rw [n5] at h4;cases h4
    have n7:b 7=false:=by
     cases h:b 7 with
     | false=>rfl
     | true=>have h4:=zg (hcl 7 (by decide) h) (j := 6) (by decide) (by kernel_rfl);rw [n6] at h4;cases h4
    have n8:b 8=false:=by
     cases h:b 8 with
     | false=>rfl
     | true=>have h4:=zg (hcl 8 (by decide) h) (j := 7) (by decide) (by kernel_rfl);rw [n7] at h4;cases h4
    have n9:b 9=false:=by
     cases h:b 9 with
     | false=>rfl
     | true=>have h4:=zg (hcl 9 (by decide) h) (j := 7) (by decide) (by kernel_rfl);rw [n7] at h4;cases h4
    have n10:b 10=false:=by
     cases h:b 10 with
     | false=>rfl
     | true=>have h4:=zg (hcl 10 (by decide) h) (j := 8) (by decide) (by kernel_rfl);rw [n8] at h4;cases h4
    have n11:b 11=false:=by
     cases h:b 11 with
     | false=>rfl
     | true=>have h4:=zg (hcl 11 (by decide) h) (j := 9) (by decide) (by kernel_rfl);rw [n9] at h4;cases h4
    refine ⟨by trivial,by simp [zx,stDb],?_⟩
    (simp only [simprocAttr,implies_true,amz,zb,tys,hrl,hx1,hx2,hx3,hx4,lkc,zS,Nat.reduceBEq,Bool.false_or,Bool.true_or,Bool.not_true,Bool.not_false,Bool.and_true,Bool.true_and,Bool.and_false,Bool.false_and,cond_true,cond_false,List.nil_append,List.cons_append,List.length_append,stDb,n3,n5,n6,n7,n8,n9,n10,n11,hb];refine (zi.ren _ 1000003 1000002).trans ?_;simp only [ASt.ren,AV.zZ,AV.zF,AV.qd,AV.qz,AV.zW,AV.zD,AV.zq,AV.qc,AV.qR,AV.zC,AV.qj,AO.qD,AO.qG,AO.qE,AO.qF,List.map_cons,List.map_nil,List.filter_cons,List.filter_nil,zm,qy,reduceIte,Nat.reduceEqDiff,Nat.reduceLT,Nat.reduceBneDiff,bne_self_eq_false,Bool.and_true,Bool.and_false,Bool.true_and,Bool.false_and,Bool.and_self,Bool.false_eq_true,ne_eq,not_false_eq_true,not_true_eq_false,and_self,and_true,true_and,and_false,lkc,zM,renC];refine zi.of' rfl ?_;simp only [wks,reduceIte,Nat.reduceEqDiff,ASt.okB,AV.okB,AO.zH,AO.z0d,AV.zN,AV.z2g,List.all_cons,List.all_nil,Nat.reduceLT,implies_true,List.nil_append,List.cons_append,cond_true,cond_false,and_self,zM,zQ,Bool.cond_self,Bool.and_self,AV.zF,AV.zW,AV.zD,AV.zq,AV.zZ,AV.zC,AV.qj,List.map_cons,List.map_nil,lkc,reduceCtorEq,zo,renC,subC,z1P,AV.z5S,AV.z1h,AV.z2l,AV.z1o,AV.z1p])
   ·refine ⟨by trivial,by simp [zx,stDb],?_⟩
    simp only [simprocAttr,implies_true,amz,zb,tys,hrl,hx1,hx2,hx3,hx4,lkc,zS,Nat.reduceBEq,Bool.false_or,Bool.true_or,Bool.not_true,Bool.not_false,Bool.and_true,Bool.true_and,Bool.and_false,Bool.false_and,cond_true,cond_false,List.nil_append,List.cons_append,List.length_append,stDb,hb]
    all_goals (repeat' (first|((with_reducible first|apply zh|apply zl);case h=>exact CallV.plain (Ent.of Tryd.func10 (by kernel_rfl) rfl) (hN) (by simp [AV.okB]))|(with_reducible refine And.intro ?_ ?_)))
    all_goals (refine zi.slots ?_;simp only [wks,reduceIte,Nat.reduceEqDiff,implies_true,cond_true,and_self])
   ·have d1:=zg hd (j := 1) (by decide) (by kernel_rfl)
    have d2:=zg hd (j := 2) (by decide) (by kernel_rfl)
    have n5:b 5=false:=by
     cases h:b 5 with
     | false=>rfl
     | true=>have h4:=zg (hcl 5 (by decide) h) (j := 3) (by decide) (by kernel_rfl);rw [hb] at h4;cases h4
    have n6:b 6=false:=by
     cases h:b 6 with
     | false=>rfl
     | true=>have h4:=zg (hcl 6 (by decide) h) (j := 5) (by decide) (by kernel_rfl);rw [n5] at h4;cases h4
    have n7:b 7=false:=by
     cases h:b 7 with
     | false=>rfl
     | true=>have h4:=zg (hcl 7 (by decide) h) (j := 6) (by decide) (by kernel_rfl);rw [n6] at h4;cases h4
    have n8:b 8=false:=by
     cases h:b 8 with
     | false=>rfl
     | true=>have h4:=zg (hcl 8 (by decide) h) (j := 7) (by decide) (by kernel_rfl);rw [n7] at h4;cases h4
    have n9:b 9=false:=by
     cases h:b 9 with
     | false=>rfl
     | true=>have h4:=zg (hcl 9 (by decide) h) (j := 7) (by decide) (by kernel_rfl);rw [n7] at h4;cases h4
    have n10:b 10=false:=by
     cases h:b 10 with
     | false=>rfl
     | true=>have h4:=zg (hcl 10 (by decide) h) (j := 8) (by decide) (by kernel_rfl);rw [n8] at h4;cases h4
    have n11:b 11=false:=by
     cases h:b 11 with
     | false=>rfl
     | true=>have h4:=zg (hcl 11 (by decide) h) (j := 9) (by decide) (by kernel_rfl);rw [n9] at h4;cases h4
    refine ⟨by trivial,by simp [zx,stDb],?_⟩
    (simp only [simprocAttr,implies_true,amz,zb,tys,hrl,hx1,hx2,hx3,hx4,lkc,zS,Nat.reduceBEq,Bool.false_or,Bool.true_or,Bool.not_true,Bool.not_false,Bool.and_true,Bool.true_and,Bool.and_false,Bool.false_and,cond_true,cond_false,List.nil_append,List.cons_append,List.length_append,stDb,d1,d2,n5,n6,n7,n8,n9,n10,n11,hb,z1P,subC];repeat' (first|with_reducible rfl|(with_reducible refine And.intro ?_ ?_)));refine zi.of' rfl ?_;simp only [wks,reduceIte,Nat.reduceEqDiff,ASt.okB,AV.okB,AO.zH,AO.z0d,AV.zN,AV.z2g,List.all_cons,List.all_nil,Nat.reduceLT,implies_true,List.nil_append,List.cons_append,cond_true,cond_false,and_self,zM,zQ,Bool.cond_self,Bool.and_self,AV.zF,AV.zW,AV.zD,AV.zq,AV.zZ,AV.zC,AV.qj,List.map_cons,List.map_nil,lkc,reduceCtorEq,zo,renC,subC,z1P,AV.z5S,AV.z1h,AV.z2l,AV.z1o,AV.z1p]
   ·refine ⟨by trivial,by simp [zx,stDb],?_⟩
    simp only [simprocAttr,implies_true,amz,zb,tys,hrl,hx1,hx2,hx3,hx4,lkc,zS,Nat.reduceBEq,Bool.false_or,Bool.true_or,Bool.not_true,Bool.not_false,Bool.and_true,Bool.true_and,Bool.and_false,Bool.false_and,cond_true,cond_false,List.nil_append,List.cons_append,List.length_append,stDb,hb]
    all_goals (repeat' (first|((with_reducible first|apply zh|apply zl);case h=>exact CallV.plain (Ent.of Tryd.func10 (by kernel_rfl) rfl) (hN) (by simp [AV.okB]))|(with_reducible refine And.intro ?_ ?_)))
    all_goals (refine zi.slots ?_;simp only [wks,reduceIte,Nat.reduceEqDiff,implies_true,cond_true,and_self])
   ·have d3:=zg hd (j := 3) (by decide) (by kernel_rfl)
    have d4:=zg hd (j := 4) (by decide) (by kernel_rfl)
    have d1:=zg (hcl 3 (by decide) d3) (j := 1) (by decide) (by kernel_rfl)
    have d2:=zg (hcl 3 (by decide) d3) (j := 2) (by decide) (by kernel_rfl)
    have n6:b 6=false:=by
     cases h:b 6 with
     | false=>rfl
     | true=>have h4:=zg (hcl 6 (by decide) h) (j := 5) (by decide) (by kernel_rfl);rw [hb] at h4;cases h4
    have n7:b 7=false:=by
     cases h:b 7 with
     | false=>rfl
     | true=>have h4:=zg (hcl 7 (by decide) h) (j := 6) (by decide) (by kernel_rfl);rw [n6] at h4;cases h4
    have n8:b 8=false:=by
     cases h:b 8 with
     | false=>rfl
     | true=>have h4:=zg (hcl 8 (by decide) h) (j := 7) (by decide) (by kernel_rfl);rw [n7] at h4;cases h4
    have n9:b 9=false:=by
     cases h:b 9 with
     | false=>rfl
     | true=>have h4:=zg (hcl 9 (by decide) h) (j := 7) (by decide) (by kernel_rfl);rw [n7] at h4;cases h4
    have n10:b 10=false:=by
     cases h:b 10 with
     | false=>rfl
     | true=>have h4:=zg (hcl 10 (by decide) h) (j := 8) (by decide) (by kernel_rfl);rw [n8] at h4;cases h4
    have n11:b 11=false:=by
     cases h:b 11 with
     | false=>rfl
     | true=>have h4:=zg (hcl 11 (by decide) h) (j := 9) (by decide) (by kernel_rfl);rw [n9] at h4;cases h4
    refine ⟨by trivial,by simp [zx,stDb],?_⟩
    (simp only [simprocAttr,implies_true,amz,zb,tys,hrl,hx1,hx2,hx3,hx4,lkc,zS,Nat.reduceBEq,Bool.false_or,Bool.true_or,Bool.not_true,Bool.not_false,Bool.and_true,Bool.true_and,Bool.and_false,Bool.false_and,cond_true,cond_false,List.nil_append,List.cons_append,List.length_append,stDb,d1,d2,d3,d4,n6,n7,n8,n9,n10,n11,hb,z1P,subC];repeat' (first|with_reducible rfl|(with_reducible refine And.intro ?_ ?_)));refine (zi.frz _ 1000002).trans ?_;simp only [ASt.frz,List.filter_cons,List.filter_nil,bne_self_eq_false,Nat.reduceBneDiff,Bool.false_eq_true,simprocAttr,implies_true,amz,zb,z1P,subC,rowP_app];refine zi.of' rfl ?_;simp only [wks,reduceIte,Nat.reduceEqDiff,ASt.okB,AV.okB,AO.zH,AO.z0d,AV.zN,AV.z2g,List.all_cons,List.all_nil,Nat.reduceLT,implies_true,List.nil_append,List.cons_append,cond_true,cond_false,and_self,zM,zQ,Bool.cond_self,Bool.and_self,AV.zF,AV.zW,AV.zD,AV.zq,AV.zZ,AV.zC,AV.qj,List.map_cons,List.map_nil,lkc,reduceCtorEq,zo,renC,subC,z1P,AV.z5S,AV.z1h,AV.z2l,AV.z1o,AV.z1p]
   ·have d0:=zg hd (j := 0) (by decide) (by kernel_rfl)
    have d5:=zg hd (j := 5) (by decide) (by kernel_rfl)
    have d3:=zg (hcl 5 (by decide) d5) (j := 3) (by decide) (by kernel_rfl)
    have d4:=zg (hcl 5 (by decide) d5) (j := 4) (by decide) (by kernel_rfl)
    have d1:=zg (hcl 3 (by decide) d3) (j := 1) (by decide) (by kernel_rfl)
    have d2:=zg (hcl 3 (by decide) d3) (j := 2) (by decide) (by kernel_rfl)
    refine ⟨by trivial,by simp [zx,stDb],?_⟩
    simp only [simprocAttr,implies_true,amz,zb,tys,hrl,hx1,hx2,hx3,hx4,lkc,zS,Nat.reduceBEq,Bool.false_or,Bool.true_or,Bool.not_true,Bool.not_false,Bool.and_true,Bool.true_and,Bool.and_false,Bool.false_and,cond_true,cond_false,List.nil_append,List.cons_append,List.length_append,stDb,d0,d1,d2,d3,d4,d5,hb]
    all_goals (repeat' (first|((with_reducible first|apply zh|apply zl);case h=>exact CallV.plain (Ent.of Tryd.func10 (by kernel_rfl) rfl) (hN) (by simp [AV.okB]))|(with_reducible refine And.intro ?_ ?_)))
    all_goals (refine zi.slots ?_;simp only [wks,reduceIte,Nat.reduceEqDiff,implies_true,cond_true,and_self,d0,d1,d2,d3,d4,d5])
   ·have d6:=zg hd (j := 6) (by decide) (by kernel_rfl)
    have d0:=zg (hcl 6 (by decide) d6) (j := 0) (by decide) (by kernel_rfl)
    have d5:=zg (hcl 6 (by decide) d6) (j := 5) (by decide) (by kernel_rfl)
    have d3:=zg (hcl 5 (by decide) d5) (j := 3) (by decide) (by kernel_rfl)
    have d4:=zg (hcl 5 (by decide) d5) (j := 4) (by decide) (by kernel_rfl)
    have d1:=zg (hcl 3 (by decide) d3) (j := 1) (by decide) (by kernel_rfl)
    have d2:=zg (hcl 3 (by decide) d3) (j := 2) (by decide) (by kernel_rfl)
    refine ⟨by trivial,by simp [zx,stDb],?_⟩
    simp only [simprocAttr,implies_true,amz,zb,tys,hrl,hx1,hx2,hx3,hx4,lkc,zS,Nat.reduceBEq,Bool.false_or,Bool.true_or,Bool.not_true,Bool.not_false,Bool.and_true,Bool.true_and,Bool.and_false,Bool.false_and,cond_true,cond_false,List.nil_append,List.cons_append,List.length_append,stDb,d0,d1,d2,d3,d4,d5,d6,hb]
    all_goals (repeat' (first|((with_reducible first|apply zh|apply zl);case h=>exact CallV.plain (Ent.of Tryd.func10 (by kernel_rfl) rfl) (hN) (by simp [AV.okB]))|(with_reducible refine And.intro ?_ ?_)))
    all_goals (refine zi.slots ?_;simp only [wks,reduceIte,Nat.reduceEqDiff,implies_true,cond_true,and_self,d0,d1,d2,d3,d4,d5,d6])
   ·have d7:=zg hd (j := 7) (by decide) (by kernel_rfl)
    have d6:=zg (hcl 7 (by decide) d7) (j := 6) (by decide) (by kernel_rfl)
    have d0:=zg (hcl 6 (by decide) d6) (j := 0) (by decide) (by kernel_rfl)
    have d5:=zg (hcl 6 (by decide) d6) (j := 5) (by decide) (by kernel_rfl)
    have d3:=zg (hcl 5 (by decide) d5) (j := 3) (by decide) (by kernel_rfl)
    have d4:=zg (hcl 5 (by decide) d5) (j := 4) (by decide) (by kernel_rfl)
    have d1:=zg (hcl 3 (by decide) d3) (j := 1) (by decide) (by kernel_rfl)
    have d2:=zg (hcl 3 (by decide) d3) (j := 2) (by decide) (by kernel_rfl)
    refine ⟨by trivial,by simp [zx,stDb],?_⟩
    simp only [simprocAttr,implies_true,amz,zb,tys,hrl,hx1,hx2,hx3,hx4,lkc,zS,Nat.reduceBEq,Bool.false_or,Bool.true_or,Bool.not_true,Bool.not_false,Bool.and_true,Bool.true_and,Bool.and_false,Bool.false_and,cond_true,cond_false,List.nil_append,List.cons_append,List.length_append,stDb,d0,d1,d2,d3,d4,d5,d6,d7,hb]
    all_goals (repeat' (first|((with_reducible first|apply zh|apply zl);case h=>exact CallV.plain (Ent.of Tryd.func10 (by kernel_rfl) rfl) (hN) (by simp [AV.okB]))|(with_reducible refine And.intro ?_ ?_)))
    all_goals (refine zi.slots ?_;simp only [wks,reduceIte,Nat.reduceEqDiff,implies_true,cond_true,and_self,d0,d1,d2,d3,d4,d5,d6,d7])
   ·have d7:=zg hd (j := 7) (by decide) (by kernel_rfl)
    have d6:=zg (hcl 7 (by decide) d7) (j := 6) (by decide) (by kernel_rfl)
    have d0:=zg (hcl 6 (by decide) d6) (j := 0) (by decide) (by kernel_rfl)
    have d5:=zg (hcl 6 (by decide) d6) (j := 5) (by decide) (by kernel_rfl)
    have d3:=zg (hcl 5 (by decide) d5) (j := 3) (by decide) (by kernel_rfl)
    have d4:=zg (hcl 5 (by decide) d5) (j := 4) (by decide) (by kernel_rfl)
    have d1:=zg (hcl 3 (by decide) d3) (j := 1) (by decide) (by kernel_rfl)
    have d2:=zg (hcl 3 (by decide) d3) (j := 2) (by decide) (by kernel_rfl)
    refine ⟨by trivial,by simp [zx,stDb],?_⟩
    simp only [simprocAttr,implies_true,amz,zb,tys,hrl,hx1,hx2,hx3,hx4,lkc,zS,Nat.reduceBEq,Bool.false_or,Bool.true_or,Bool.not_true,Bool.not_false,Bool.and_true,Bool.true_and,Bool.and_false,Bool.false_and,cond_true,cond_false,List.nil_append,List.cons_append,List.length_append,stDb,d0,d1,d2,d3,d4,d5,d6,d7,hb]
    all_goals (repeat' (first|((with_reducible first|apply zh|apply zl);case h=>exact CallV.plain (Ent.of Tryd.func10 (by kernel_rfl) rfl) (hN) (by simp [AV.okB]))|(with_reducible refine And.intro ?_ ?_)))
    all_goals (refine zi.slots ?_;simp only [wks,reduceIte,Nat.reduceEqDiff,implies_true,cond_true,and_self,d0,d1,d2,d3,d4,d5,d6,d7])
   ·have d8:=zg hd (j := 8) (by decide) (by kernel_rfl)
    have d7:=zg (hcl 8 (by decide) d8) (j := 7) (by decide) (by kernel_rfl)
    have d6:=zg (hcl 7 (by decide) d7) (j := 6) (by decide) (by kernel_rfl)
    have d0:=zg (hcl 6 (by decide) d6) (j := 0) (by decide) (by kernel_rfl)
    have d5:=zg (hcl 6 (by decide) d6) (j := 5) (by decide) (by kernel_rfl)
    have d3:=zg (hcl 5 (by decide) d5) (j := 3) (by decide) (by kernel_rfl)
    have d4:=zg (hcl 5 (by decide) d5) (j := 4) (by decide) (by kernel_rfl)
    have d1:=zg (hcl 3 (by decide) d3) (j := 1) (by decide) (by kernel_rfl)
    have d2:=zg (hcl 3 (by decide) d3) (j := 2) (by decide) (by kernel_rfl)
    refine ⟨by trivial,by simp [zx,stDb],?_⟩
    simp only [simprocAttr,implies_true,amz,zb,tys,hrl,hx1,hx2,hx3,hx4,lkc,zS,Nat.reduceBEq,Bool.false_or,Bool.true_or,Bool.not_true,Bool.not_false,Bool.and_true,Bool.true_and,Bool.and_false,Bool.false_and,cond_true,cond_false,List.nil_append,List.cons_append,List.length_append,stDb,d0,d1,d2,d3,d4,d5,d6,d7,d8,hb]
    all_goals (repeat' (first|((with_reducible first|apply zh|apply zl);case h=>exact CallV.plain (Ent.of Tryd.func10 (by kernel_rfl) rfl) (hN) (by simp [AV.okB]))|(with_reducible refine And.intro ?_ ?_)))
    all_goals (refine zi.slots ?_;simp only [wks,reduceIte,Nat.reduceEqDiff,implies_true,cond_true,and_self,d0,d1,d2,d3,d4,d5,d6,d7,d8])
   ·have d9:=zg hd (j := 9) (by decide) (by kernel_rfl)
    have d7:=zg (hcl 9 (by decide) d9) (j := 7) (by decide) (by kernel_rfl)
    have d6:=zg (hcl 7 (by decide) d7) (j := 6) (by decide) (by kernel_rfl)
    have d0:=zg (hcl 6 (by decide) d6) (j := 0) (by decide) (by kernel_rfl)
    have d5:=zg (hcl 6 (by decide) d6) (j := 5) (by decide) (by kernel_rfl)
    have d3:=zg (hcl 5 (by decide) d5) (j := 3) (by decide) (by kernel_rfl)
    have d4:=zg (hcl 5 (by decide) d5) (j := 4) (by decide) (by kernel_rfl)
    have d1:=zg (hcl 3 (by decide) d3) (j := 1) (by decide) (by kernel_rfl)
    have d2:=zg (hcl 3 (by decide) d3) (j := 2) (by decide) (by kernel_rfl)
    refine ⟨by trivial,by simp [zx,stDb],?_⟩
    simp only [simprocAttr,implies_true,amz,zb,tys,hrl,hx1,hx2,hx3,hx4,lkc,zS,Nat.reduceBEq,Bool.false_or,Bool.true_or,Bool.not_true,Bool.not_false,Bool.and_true,Bool.true_and,Bool.and_false,Bool.false_and,cond_true,cond_false,List.nil_append,List.cons_append,List.length_append,stDb,d0,d1,d2,d3,d4,d5,d6,d7,d9,hb]
    all_goals (repeat' (first|((with_reducible first|apply zh|apply zl);case h=>exact CallV.plain (Ent.of Tryd.func10 (by kernel_rfl) rfl) (hN) (by simp [AV.okB]))|(with_reducible refine And.intro ?_ ?_)))
    all_goals (refine zi.slots ?_;simp only [wks,reduceIte,Nat.reduceEqDiff,implies_true,cond_true,and_self,d0,d1,d2,d3,d4,d5,d6,d7,d9])
  apply hK';clear hK' K';simp only [stDb,List.length_cons,List.length_nil,Nat.reduceAdd,Nat.reduceLT,decide_true,Bool.not_true,Bool.and_false,cond_true,cond_false,List.cons_append,List.nil_append];(try simp only [za,z8,reduceIte,Nat.reduceEqDiff]);(try ((repeat ((fail_if_success apply hK);clear hK K));apply hK;clear hK K))
  --KRAM
  have hw0:IntKind.i64.wrap 2=2:=by decide
  repeat' (first|refine T.zk fun K hK=>?_|apply T.block|(refine T.reg (by kernel_rfl) fun K' hK'=>?_;simp only [bz];(with_reducible repeat' (first|(apply WL.fin;apply hK';clear hK' K')|(refine WL.step fun K2 hK2=>?_;simp only [simprocAttr,implies_true,amz,zb,tys,hl1,hl2,bne_self_eq_false,hx5,hx6,Bool.false_eq_true,Bool.true_eq_false];repeat' (first|(apply hK2;clear hK2 K2)|apply And.intro|intro hb)))))|apply T.skip|apply T.exit|refine T.zf rfl ?_|refine T.ze rfl ?_|refine T.cond rfl (fun hc=>?_) (fun hc=>?_)|apply T.ret|simp only [za,z8,reduceIte,Nat.reduceEqDiff]|((repeat ((fail_if_success apply hK);clear hK K));apply hK;clear hK K))
  refine T.z0o (fun k:Nat=>⟨[(4,.bool false),(7,.p (.seq 7 ((o.map dblR).map qJ))),(9,.own 1000003),(46,.int (o.length:Int)),(47,.int (k:Int))],[(1000003,.row 41 7 ((mixR o k).map qJ)),(1000000,.boxP (some 0) 159 (z08 z3q))],62,1000004⟩) (fun k=>k≤o.length) (fun k=>o.length-k) 0 (Nat.zero_le _) ?_ ?_
  ·have hmz:mixR o 0=o:=by simp [mixR]
   refine zi.of' rfl ?_;simp only [wks,reduceIte,Nat.reduceEqDiff,ASt.okB,AV.okB,Nat.reduceLT,implies_true,hmz,zo,subC,Int.natCast_zero]
  intro k hk KL hKL
  have hml:((mixR o k).map qJ).length=o.length:=by rw [List.length_map,mixR_len]
  by_cases hd:k<o.length
  ·have d1:decide ((k:Int)<(o.length:Int))=true:=by simp;omega
   obtain ⟨x,hx⟩:=z01 hd
   have r1:=rep_at (mixR_at hx)
   have hcx:=hoc x (List.mem_of_getElem? hx)
   have hwc:IntKind.i64.wrap (x.cnt*2)=x.cnt*2:=by rw [IntKind.wrap_i64];omega
   have r2:=mixR_rows hx
   have hk2:(k<o.length)=True:=eq_true hd
   obtain ⟨c0,cs,hcc⟩ : ∃ c0 cs,(mixR o k).map qJ=c0 :: cs:=by
    cases hc:(mixR o k).map qJ with
    | nil=>rw [hc] at hml;simp only [List.length_nil] at hml;omega
    | cons a b=>exact ⟨a,b,rfl⟩
   rw [hcc] at r1 r2 hml ⊢
   rw [List.length_cons] at hml
   repeat' (first|refine T.zk fun K hK=>?_|apply T.block|(refine T.reg (by kernel_rfl) fun K' hK'=>?_;simp only [bz];(with_reducible repeat' (first|(apply WL.fin;apply hK';clear hK' K')|(refine WL.step fun K2 hK2=>?_;simp only [simprocAttr,implies_true,amz,zb,tys,d1,hml,r1,r2,hwc,hk2];repeat' (first|(apply hK2;clear hK2 K2)|apply And.intro|intro hb)))))|apply T.skip|apply T.exit|refine T.zf rfl ?_|refine T.ze rfl ?_|refine T.cond rfl (fun hc=>?_) (fun hc=>?_)|apply T.ret|simp only [za,z8,reduceIte,Nat.reduceEqDiff]|((repeat ((fail_if_success apply hK);clear hK K));apply hK;clear hK K))
   refine hKL _ (k+1) (by refine zi.of' rfl ?_;simp only [wks,reduceIte,Nat.reduceEqDiff,ASt.okB,AV.okB,Nat.reduceLT,implies_true,zo,zT (show k<1152921504606846976 by omega)]) (by omega) (by omega)
  ·have d1:decide ((k:Int)<(o.length:Int))=false:=by simp;omega
   obtain rfl:k=o.length:=by omega
   rw [mixR_end]
   repeat' (first|refine T.zk fun K hK=>?_|apply T.block|apply T.skip|apply T.exit|refine T.zf rfl ?_|refine T.ze rfl ?_|refine T.cond rfl (fun hc=>?_) (fun hc=>?_)|apply T.ret|simp only [za,z8,reduceIte,Nat.reduceEqDiff]|((repeat ((fail_if_success apply hK);clear hK K));apply hK;clear hK K))
   (refine T.reg (by kernel_rfl) fun K' hK'=>?_;simp only [bz];(with_reducible repeat' (first|(apply WL.fin;apply hK';clear hK' K')|(refine WL.step fun K2 hK2=>?_;simp only [simprocAttr,implies_true,amz,zb,tys,d1];repeat' (first|(apply hK2;clear hK2 K2)|apply And.intro|intro hb))));all_goals ((try simp only [za,z8,reduceIte,Nat.reduceEqDiff]);(try ((repeat ((fail_if_success apply hK);clear hK K));apply hK;clear hK K))))
   refine T.weak (zi.frz _ 1000003) ?_;simp only [ASt.frz,List.filter_cons,List.filter_nil,bne_self_eq_false,Nat.reduceBneDiff,Bool.false_eq_true,simprocAttr,implies_true,amz,zb,tys,subC]
   repeat' (first|refine T.zk fun K hK=>?_|apply T.block|(refine T.reg (by kernel_rfl) fun K' hK'=>?_;simp only [bz];(repeat' (first|(with_reducible refine WL.fin ?_;apply hK';clear hK' K')|((with_reducible refine WL.step fun K2 hK2=>?_);simp only [simprocAttr,implies_true,amz,zb,tys];(repeat' (first|with_reducible (first|(apply hK2;clear hK2 K2)|apply And.intro|intro hb)|((with_reducible first|apply zh|apply zl);case h=>exact CallV.plain (Ent.of Tryd.func12 (by kernel_rfl) rfl) (hS) (by simp [AV.okB]))))))))|apply T.skip|apply T.exit|refine T.zf rfl ?_|refine T.ze rfl ?_|refine T.cond rfl (fun hc=>?_) (fun hc=>?_)|apply T.ret|simp only [za,z8,reduceIte,Nat.reduceEqDiff]|((repeat ((fail_if_success apply hK);clear hK K));apply hK;clear hK K))
   all_goals (refine FinM.ret (s':=⟨[(4,.p (.val (.bool true)))],hpG,62,1000001⟩) (r := .p (.val (.bool true))) (.inr rfl) Tryd.results5 (by refine zi.of' rfl ?_;simp only [wks,reduceIte,Nat.reduceEqDiff,ASt.okB,AV.okB,Nat.reduceLT,implies_true,hpG,zo]) rfl ?_ ?_;(focus (simp only [zR,zA,zB,simprocAttr,implies_true,amz,zb,tys,];done)))
   all_goals exact ⟨rfl,rfl⟩
theorem line_mem (fs:List Fu) (g y:PV) (mn:Int) (st:List Int) (sz:Int) (s:P2):MemC Tryd.prog 6 1000001 hpG [pgA fs g y mn,lnA st sz,p2A s] fun hp' r'=>hp' = hpG∧r' = .p (.val (.bool true)):=by
 have hA:=z1r
 have hf:(fs.map fuC).length=fs.length:=by simp
 have hz:=z07 st
 by_cases h1:fs.length≤20
 ·have g1:decide ((20:Int)<(fs.length:Int))=false:=by simp;omega
  by_cases h2:st.length≤100
  ·have g2:decide ((100:Int)<(st.length:Int))=false:=by simp;omega
   have hP:=z5u fs g y mn st sz s (by omega)
   have hR:=z7Q fs g y mn st sz s (by omega)
   simp only [pgA,lnA,p2A] at hP hR ⊢
   refine MemC.of Tryd.func6 rfl 28 rfl (by decide) ?_;simp only [qK,frOf]
   simp only [hpG]
   repeat' (first|refine T.zk fun K hK=>?_|apply T.block|(refine T.reg (by kernel_rfl) fun K' hK'=>?_;simp only [bz];(repeat' (first|(with_reducible refine WL.fin ?_;apply hK';clear hK' K')|((with_reducible refine WL.step fun K2 hK2=>?_);simp only [simprocAttr,implies_true,amz,zb,tys,hf,hz,g1,g2,Bool.not_true,Bool.false_eq_true];(repeat' (first|with_reducible (first|(apply hK2;clear hK2 K2)|apply And.intro|intro hb)|((with_reducible first|apply zh|apply zl);case h=>exact CallV.read 1000001 hpG _ rfl (Ent.of Tryd.func8 (by kernel_rfl) rfl) (hA) (z0t (by decide) (fun t o ho=>by obtain ⟨rfl,rfl⟩:=qo ho;simp [zm])) (by simp [AV.okB]) rfl)))))))|apply T.skip|apply T.exit|refine T.zf rfl ?_|refine T.ze rfl ?_|refine T.cond rfl (fun hc=>?_) (fun hc=>?_)|apply T.ret|simp only [za,z8,reduceIte,Nat.reduceEqDiff]|((repeat ((fail_if_success apply hK);clear hK K));apply hK;clear hK K))
   refine T.drw 9 (by kernel_rfl) (by kernel_rfl) fun K' hK'=>?_;simp only [List.map_cons,List.map_nil];(repeat' (first|(with_reducible refine WL.fin ?_;apply hK';clear hK' K')|(with_reducible refine WD.fin ?_)|((with_reducible first|refine WL.step fun K2 hK2=>?_|refine WD.step fun K2 hK2=>?_);simp only [simprocAttr,implies_true,amz,zb,tys,beq_self_eq_true];(repeat' (first|with_reducible (first|(apply hK2;clear hK2 K2)|apply And.intro|intro hb)|((with_reducible first|apply zh|apply zl);case h=>exact CallV.plain (Ent.of Tryd.func13 (by kernel_rfl) rfl) (hP) (by simp [AV.okB]))|((with_reducible first|apply zh|apply zl);case h=>exact CallV.plain (Ent.of Tryd.func14 (by kernel_rfl) rfl) (hR) (by simp [AV.okB])))))));all_goals ((try simp only [za,z8,reduceIte,Nat.reduceEqDiff]);(try ((repeat ((fail_if_success apply hK);clear hK K));apply hK;clear hK K)))
   all_goals repeat' (first|refine T.zk fun K hK=>?_|apply T.block|(refine T.reg (by kernel_rfl) fun K' hK'=>?_;simp only [bz];(with_reducible repeat' (first|(apply WL.fin;apply hK';clear hK' K')|(refine WL.step fun K2 hK2=>?_;simp only [simprocAttr,implies_true,amz,zb,tys];repeat' (first|(apply hK2;clear hK2 K2)|apply And.intro|intro hb)))))|apply T.skip|apply T.exit|refine T.zf rfl ?_|refine T.ze rfl ?_|refine T.cond rfl (fun hc=>?_) (fun hc=>?_)|apply T.ret|simp only [za,z8,reduceIte,Nat.reduceEqDiff]|((repeat ((fail_if_success apply hK);clear hK K));apply hK;clear hK K))
   all_goals (refine FinM.ret (s':=⟨[(6,.p (.val (.bool true)))],hpG,28,1000001⟩) (r := .p (.val (.bool true))) (.inr rfl) Tryd.results6 (by refine zi.of' rfl ?_;simp only [wks,reduceIte,Nat.reduceEqDiff,ASt.okB,AV.okB,Nat.reduceLT,implies_true,hpG,zo]) rfl ?_ ?_;(focus (simp only [zR,zA,zB,simprocAttr,implies_true,amz,zb,tys,];done)))
   all_goals exact ⟨rfl,rfl⟩
  ·have g2:decide ((100:Int)<(st.length:Int))=true:=by simp;omega
   simp only [pgA,lnA,p2A]
   refine MemC.of Tryd.func6 rfl 28 rfl (by decide) ?_;simp only [qK,frOf]
   simp only [hpG]
   repeat' (first|refine T.zk fun K hK=>?_|apply T.block|(refine T.reg (by kernel_rfl) fun K' hK'=>?_;simp only [bz];(repeat' (first|(with_reducible refine WL.fin ?_;apply hK';clear hK' K')|((with_reducible refine WL.step fun K2 hK2=>?_);simp only [simprocAttr,implies_true,amz,zb,tys,hf,hz,g1,g2,Bool.not_true,Bool.false_eq_true];(repeat' (first|with_reducible (first|(apply hK2;clear hK2 K2)|apply And.intro|intro hb)|((with_reducible first|apply zh|apply zl);case h=>exact CallV.read 1000001 hpG _ rfl (Ent.of Tryd.func8 (by kernel_rfl) rfl) (hA) (z0t (by decide) (fun t o ho=>by obtain ⟨rfl,rfl⟩:=qo ho;simp [zm])) (by simp [AV.okB]) rfl)))))))|apply T.skip|apply T.exit|refine T.zf rfl ?_|refine T.ze rfl ?_|refine T.cond rfl (fun hc=>?_) (fun hc=>?_)|apply T.ret|simp only [za,z8,reduceIte,Nat.reduceEqDiff]|((repeat ((fail_if_success apply hK);clear hK K));apply hK;clear hK K))
   all_goals (refine FinM.ret (s':=⟨[(6,.p (.val (.bool true)))],hpG,28,1000001⟩) (r := .p (.val (.bool true))) (.inr rfl) Tryd.results6 (by refine zi.of' rfl ?_;simp only [wks,reduceIte,Nat.reduceEqDiff,ASt.okB,AV.okB,Nat.reduceLT,implies_true,hpG,zo]) rfl ?_ ?_;(focus (simp only [zR,zA,zB,simprocAttr,implies_true,amz,zb,tys,];done)))
   all_goals exact ⟨rfl,rfl⟩
 ·have g1:decide ((20:Int)<(fs.length:Int))=true:=by simp;omega
  simp only [pgA,lnA,p2A]
  refine MemC.of Tryd.func6 rfl 28 rfl (by decide) ?_;simp only [qK,frOf]
  simp only [hpG]
  repeat' (first|refine T.zk fun K hK=>?_|apply T.block|(refine T.reg (by kernel_rfl) fun K' hK'=>?_;simp only [bz];(repeat' (first|(with_reducible refine WL.fin ?_;apply hK';clear hK' K')|((with_reducible refine WL.step fun K2 hK2=>?_);simp only [simprocAttr,implies_true,amz,zb,tys,hf,hz,g1,Bool.not_true,Bool.false_eq_true,Bool.true_eq_false];(repeat' (first|with_reducible (first|(apply hK2;clear hK2 K2)|apply And.intro|intro hb)|((with_reducible first|apply zh|apply zl);case h=>exact CallV.read 1000001 hpG _ rfl (Ent.of Tryd.func8 (by kernel_rfl) rfl) (hA) (z0t (by decide) (fun t o ho=>by obtain ⟨rfl,rfl⟩:=qo ho;simp [zm])) (by simp [AV.okB]) rfl)))))))|apply T.skip|apply T.exit|refine T.zf rfl ?_|refine T.ze rfl ?_|refine T.cond rfl (fun hc=>?_) (fun hc=>?_)|apply T.ret|simp only [za,z8,reduceIte,Nat.reduceEqDiff]|((repeat ((fail_if_success apply hK);clear hK K));apply hK;clear hK K))
  all_goals (refine FinM.ret (s':=⟨[(6,.p (.val (.bool true)))],hpG,28,1000001⟩) (r := .p (.val (.bool true))) (.inr rfl) Tryd.results6 (by refine zi.of' rfl ?_;simp only [wks,reduceIte,Nat.reduceEqDiff,ASt.okB,AV.okB,Nat.reduceLT,implies_true,hpG,zo]) rfl ?_ ?_;(focus (simp only [zR,zA,zB,simprocAttr,implies_true,amz,zb,tys,];done)))
  all_goals exact ⟨rfl,rfl⟩
theorem text_mem (fs:List Fu) (g y:PV) (mn:Int) (st:List Int) (sz:Int) (r:Rep) (hn:NmOk fs) (hw:RepW r) (hi1:r.s1.length≤4611686018427387903) (hi2:r.s2.length≤4611686018427387903):MemC Tryd.prog 7 1000001 hpG [pgA fs g y mn,lnA st sz,repA r] fun hp' r'=>hp' = hpG∧r' = .p (.val (.bool true)):=by
 have hA:=z1r
 have hf:(fs.map fuC).length=fs.length:=by simp
 have hz:=z07 st
 have hs1:=qO r.s1
 have hs2:=qO r.s2
 have hw1:IntKind.i64.wrap ((r.s1.length:Int)+(r.s2.length:Int))=(r.s1.length:Int)+(r.s2.length:Int):=by rw [IntKind.wrap_i64];omega
 by_cases h1:fs.length≤20
 ·have g1:decide ((20:Int)<(fs.length:Int))=false:=by simp;omega
  by_cases h2:st.length≤100
  ·have g2:decide ((100:Int)<(st.length:Int))=false:=by simp;omega
   by_cases h3:r.s1.length+r.s2.length≤40
   ·have g3:decide ((40:Int)<(r.s1.length:Int)+(r.s2.length:Int))=false:=by simp;omega
    have hP:=z5d fs g y mn st sz r hn (by omega) (by omega) (by omega) hw
    have hR:=textR_ok fs g y mn st sz r hn (by omega) (by omega) (by omega) hw
    simp only [pgA,lnA,repA,qJ,List.map_cons,List.map_nil] at hP hR ⊢
    refine MemC.of Tryd.func7 rfl 38 rfl (by decide) ?_;simp only [qK,frOf]
    simp only [hpG]
    repeat' (first|refine T.zk fun K hK=>?_|apply T.block|(refine T.reg (by kernel_rfl) fun K' hK'=>?_;simp only [bz];(repeat' (first|(with_reducible refine WL.fin ?_;apply hK';clear hK' K')|((with_reducible refine WL.step fun K2 hK2=>?_);simp only [simprocAttr,implies_true,amz,zb,tys,hf,hz,hs1,hs2,hw1,g1,g2,g3,Bool.not_true,Bool.false_eq_true];(repeat' (first|with_reducible (first|(apply hK2;clear hK2 K2)|apply And.intro|intro hb)|((with_reducible first|apply zh|apply zl);case h=>exact CallV.read 1000001 hpG _ rfl (Ent.of Tryd.func8 (by kernel_rfl) rfl) (hA) (z0t (by decide) (fun t o ho=>by obtain ⟨rfl,rfl⟩:=qo ho;simp [zm])) (by simp [AV.okB]) rfl)))))))|apply T.skip|apply T.exit|refine T.zf rfl ?_|refine T.ze rfl ?_|refine T.cond rfl (fun hc=>?_) (fun hc=>?_)|apply T.ret|simp only [za,z8,reduceIte,Nat.reduceEqDiff]|((repeat ((fail_if_success apply hK);clear hK K));apply hK;clear hK K))
    refine T.drw 9 (by kernel_rfl) (by kernel_rfl) fun K' hK'=>?_;simp only [List.map_cons,List.map_nil];(repeat' (first|(with_reducible refine WL.fin ?_;apply hK';clear hK' K')|(with_reducible refine WD.fin ?_)|((with_reducible first|refine WL.step fun K2 hK2=>?_|refine WD.step fun K2 hK2=>?_);simp only [simprocAttr,implies_true,amz,zb,tys,beq_self_eq_true];(repeat' (first|with_reducible (first|(apply hK2;clear hK2 K2)|apply And.intro|intro hb)|((with_reducible first|apply zh|apply zl);case h=>exact CallV.read 1000001 hpG _ rfl (Ent.of Tryd.func15 (by kernel_rfl) rfl) (hP) (z0t (by decide) (fun t o ho=>by obtain ⟨rfl,rfl⟩:=qo ho;simp [zm])) (by simp [AV.okB]) rfl)|((with_reducible first|apply zh|apply zl);case h=>exact CallV.plain (Ent.of Tryd.func16 (by kernel_rfl) rfl) (hR) (by simp [AV.okB])))))));all_goals ((try simp only [za,z8,reduceIte,Nat.reduceEqDiff]);(try ((repeat ((fail_if_success apply hK);clear hK K));apply hK;clear hK K)))
    all_goals repeat' (first|refine T.zk fun K hK=>?_|apply T.block|(refine T.reg (by kernel_rfl) fun K' hK'=>?_;simp only [bz];(with_reducible repeat' (first|(apply WL.fin;apply hK';clear hK' K')|(refine WL.step fun K2 hK2=>?_;simp only [simprocAttr,implies_true,amz,zb,tys];repeat' (first|(apply hK2;clear hK2 K2)|apply And.intro|intro hb)))))|apply T.skip|apply T.exit|refine T.zf rfl ?_|refine T.ze rfl ?_|refine T.cond rfl (fun hc=>?_) (fun hc=>?_)|apply T.ret|simp only [za,z8,reduceIte,Nat.reduceEqDiff]|((repeat ((fail_if_success apply hK);clear hK K));apply hK;clear hK K))
    all_goals (refine FinM.ret (s':=⟨[(6,.p (.val (.bool true)))],hpG,38,1000001⟩) (r := .p (.val (.bool true))) (.inr rfl) Tryd.results7 (by refine zi.of' rfl ?_;simp only [wks,reduceIte,Nat.reduceEqDiff,ASt.okB,AV.okB,Nat.reduceLT,implies_true,hpG,zo]) rfl ?_ ?_;(focus (simp only [zR,zA,zB,simprocAttr,implies_true,amz,zb,tys,];done)))
    all_goals exact ⟨rfl,rfl⟩
   ·have g3:decide ((40:Int)<(r.s1.length:Int)+(r.s2.length:Int))=true:=by simp;omega
    simp only [pgA,lnA,repA,qJ,List.map_cons,List.map_nil]
    refine MemC.of Tryd.func7 rfl 38 rfl (by decide) ?_;simp only [qK,frOf]
    simp only [hpG]
    repeat' (first|refine T.zk fun K hK=>?_|apply T.block|(refine T.reg (by kernel_rfl) fun K' hK'=>?_;simp only [bz];(repeat' (first|(with_reducible refine WL.fin ?_;apply hK';clear hK' K')|((with_reducible refine WL.step fun K2 hK2=>?_);simp only [simprocAttr,implies_true,amz,zb,tys,hf,hz,hs1,hs2,hw1,g1,g2,g3,Bool.not_true,Bool.false_eq_true];(repeat' (first|with_reducible (first|(apply hK2;clear hK2 K2)|apply And.intro|intro hb)|((with_reducible first|apply zh|apply zl);case h=>exact CallV.read 1000001 hpG _ rfl (Ent.of Tryd.func8 (by kernel_rfl) rfl) (hA) (z0t (by decide) (fun t o ho=>by obtain ⟨rfl,rfl⟩:=qo ho;simp [zm])) (by simp [AV.okB]) rfl)))))))|apply T.skip|apply T.exit|refine T.zf rfl ?_|refine T.ze rfl ?_|refine T.cond rfl (fun hc=>?_) (fun hc=>?_)|apply T.ret|simp only [za,z8,reduceIte,Nat.reduceEqDiff]|((repeat ((fail_if_success apply hK);clear hK K));apply hK;clear hK K))
    all_goals (refine FinM.ret (s':=⟨[(6,.p (.val (.bool true)))],hpG,38,1000001⟩) (r := .p (.val (.bool true))) (.inr rfl) Tryd.results7 (by refine zi.of' rfl ?_;simp only [wks,reduceIte,Nat.reduceEqDiff,ASt.okB,AV.okB,Nat.reduceLT,implies_true,hpG,zo]) rfl ?_ ?_;(focus (simp only [zR,zA,zB,simprocAttr,implies_true,amz,zb,tys,];done)))
    all_goals exact ⟨rfl,rfl⟩
  ·have g2:decide ((100:Int)<(st.length:Int))=true:=by simp;omega
   simp only [pgA,lnA,repA,qJ,List.map_cons,List.map_nil]
   refine MemC.of Tryd.func7 rfl 38 rfl (by decide) ?_;simp only [qK,frOf]
   simp only [hpG]
   repeat' (first|refine T.zk fun K hK=>?_|apply T.block|(refine T.reg (by kernel_rfl) fun K' hK'=>?_;simp only [bz];(repeat' (first|(with_reducible refine WL.fin ?_;apply hK';clear hK' K')|((with_reducible refine WL.step fun K2 hK2=>?_);simp only [simprocAttr,implies_true,amz,zb,tys,hf,hz,g1,g2,Bool.not_true,Bool.false_eq_true,Bool.true_eq_false];(repeat' (first|with_reducible (first|(apply hK2;clear hK2 K2)|apply And.intro|intro hb)|((with_reducible first|apply zh|apply zl);case h=>exact CallV.read 1000001 hpG _ rfl (Ent.of Tryd.func8 (by kernel_rfl) rfl) (hA) (z0t (by decide) (fun t o ho=>by obtain ⟨rfl,rfl⟩:=qo ho;simp [zm])) (by simp [AV.okB]) rfl)))))))|apply T.skip|apply T.exit|refine T.zf rfl ?_|refine T.ze rfl ?_|refine T.cond rfl (fun hc=>?_) (fun hc=>?_)|apply T.ret|simp only [za,z8,reduceIte,Nat.reduceEqDiff]|((repeat ((fail_if_success apply hK);clear hK K));apply hK;clear hK K))
   all_goals (refine FinM.ret (s':=⟨[(6,.p (.val (.bool true)))],hpG,38,1000001⟩) (r := .p (.val (.bool true))) (.inr rfl) Tryd.results7 (by refine zi.of' rfl ?_;simp only [wks,reduceIte,Nat.reduceEqDiff,ASt.okB,AV.okB,Nat.reduceLT,implies_true,hpG,zo]) rfl ?_ ?_;(focus (simp only [zR,zA,zB,simprocAttr,implies_true,amz,zb,tys,];done)))
   all_goals exact ⟨rfl,rfl⟩
 ·have g1:decide ((20:Int)<(fs.length:Int))=true:=by simp;omega
  simp only [pgA,lnA,repA,qJ,List.map_cons,List.map_nil]
  refine MemC.of Tryd.func7 rfl 38 rfl (by decide) ?_;simp only [qK,frOf]
  simp only [hpG]
  repeat' (first|refine T.zk fun K hK=>?_|apply T.block|(refine T.reg (by kernel_rfl) fun K' hK'=>?_;simp only [bz];(repeat' (first|(with_reducible refine WL.fin ?_;apply hK';clear hK' K')|((with_reducible refine WL.step fun K2 hK2=>?_);simp only [simprocAttr,implies_true,amz,zb,tys,hf,hz,g1,Bool.not_true,Bool.false_eq_true,Bool.true_eq_false];(repeat' (first|with_reducible (first|(apply hK2;clear hK2 K2)|apply And.intro|intro hb)|((with_reducible first|apply zh|apply zl);case h=>exact CallV.read 1000001 hpG _ rfl (Ent.of Tryd.func8 (by kernel_rfl) rfl) (hA) (z0t (by decide) (fun t o ho=>by obtain ⟨rfl,rfl⟩:=qo ho;simp [zm])) (by simp [AV.okB]) rfl)))))))|apply T.skip|apply T.exit|refine T.zf rfl ?_|refine T.ze rfl ?_|refine T.cond rfl (fun hc=>?_) (fun hc=>?_)|apply T.ret|simp only [za,z8,reduceIte,Nat.reduceEqDiff]|((repeat ((fail_if_success apply hK);clear hK K));apply hK;clear hK K))
  all_goals (refine FinM.ret (s':=⟨[(6,.p (.val (.bool true)))],hpG,38,1000001⟩) (r := .p (.val (.bool true))) (.inr rfl) Tryd.results7 (by refine zi.of' rfl ?_;simp only [wks,reduceIte,Nat.reduceEqDiff,ASt.okB,AV.okB,Nat.reduceLT,implies_true,hpG,zo]) rfl ?_ ?_;(focus (simp only [zR,zA,zB,simprocAttr,implies_true,amz,zb,tys,];done)))
  all_goals exact ⟨rfl,rfl⟩
end Go.Proofs.YtbkkginjfnjffaaDoor
