/- Texts Su, Sw, Sv, Sx, Sy, Sz, Sk, Sl, Pa, Pb, Pc, Pd. -/
import Derived.Laws.Strings
import Derived.Test.YtdlgoofjechocaaZ05
set_option maxHeartbeats 32000000
set_option maxRecDepth 100000
set_option linter.unusedSimpArgs false
set_option linter.unusedVariables false
namespace Go.Proofs.Ytdlgoofjechocaa
open Go.RowKit Go.Sort
def z0r (o f:Int):List Lk→Lk
 | []=>⟨o,f,false,0⟩
 | c :: r=>if c.obj==o&&c.off==f then c else z0r o f r
theorem lock_ok (s:Rs) (o f:Int) (hl:s.locks.length≤1000000):zq Try.prog 61 [rsA s,.int o,.int f] (lkA (z0r o f s.locks)):=by
 simp only [rsA,rsC,List.map_cons,List.map_nil,lkA,lkC]
 refine zq.of Try.func61 rfl 41 rfl (by decide) (by simp [AV.okB]) ?_
 repeat' (first|refine T.zh fun K hK=>?_|refine T.block ?_|(refine T.reg (by kernel_rfl) fun K' hK'=>?_;simp only [bz];(repeat' (first|(with_reducible refine WL.fin ?_;refine hK' _ ?_;clear hK' K')|((with_reducible refine WL.step fun K2 hK2=>?_);simp only [simprocAttr,implies_true,amz,tys];(repeat' with_reducible (first|(refine hK2 _ ?_;clear hK2 K2)|refine And.intro ?_ ?_|intro hb))))))|refine T.skip ?_|refine T.exit ?_|refine T.zf rfl ?_|refine T.ze rfl ?_|refine T.cond rfl (fun hc=>?_) (fun hc=>?_)|refine T.ret ?_|simp only [za,z8,reduceIte,Nat.reduceEqDiff]|((repeat ((fail_if_success (refine hK _ ?_));clear hK K));refine hK _ ?_;clear hK K))
 refine T.qc (fun k:Nat=>⟨[(0,rsA s),(1,.int o),(2,.int f),(3,.ptr 0 0),(6,.ptr 1 0),(7,.int k)],[(1,.box 100 ((lkC ⟨0,0,false,0⟩).map .p)),(0,.box 66 ((rsC s).map .p))],41,2⟩) (fun k=>k≤s.locks.length∧z0r o f s.locks=z0r o f (s.locks.drop k)) (fun k=>s.locks.length-k) 0 ⟨Nat.zero_le _,rfl⟩ (by refine zk.of' rfl ?_;simp only [wks,reduceIte,Nat.reduceEqDiff,ASt.okB,AV.okB,Nat.reduceLT,implies_true,Int.natCast_zero,rsA,rsC,lkC,List.map_cons,List.map_nil]) ?_
 ·rintro k ⟨hk,hn⟩ KL hKL
  simp only [rsA,rsC,List.map_cons,List.map_nil,lkC]
  by_cases hlt:k<s.locks.length
  ·obtain ⟨x,hx⟩:=zT hlt
   have hd:decide ((k:Int)<(s.locks.length:Int))=true:=by simpa using hlt
   rw [drop_at hx,z0r] at hn
   have hcont:z0r o f s.locks=z0r o f (s.locks.drop (k+1)) → ∀ s',zk s' _→KL s':=fun h s' hw=>hKL s' (k+1) hw ⟨by omega,h⟩ (by omega)
   repeat' (first|refine T.zh fun K hK=>?_|refine T.block ?_|(refine T.reg (by kernel_rfl) fun K' hK'=>?_;simp only [bz];(repeat' (first|(with_reducible refine WL.fin ?_;refine hK' _ ?_;clear hK' K')|((with_reducible refine WL.step fun K2 hK2=>?_);simp only [simprocAttr,implies_true,amz,tys,hx,hd,lkC];(repeat' with_reducible (first|(refine hK2 _ ?_;clear hK2 K2)|refine And.intro ?_ ?_|intro hb))))))|refine T.skip ?_|refine T.exit ?_|refine T.zf rfl ?_|refine T.ze rfl ?_|refine T.cond rfl (fun hc=>?_) (fun hc=>?_)|refine T.ret ?_|simp only [za,z8,reduceIte,Nat.reduceEqDiff]|((repeat ((fail_if_success (refine hK _ ?_));clear hK K));refine hK _ ?_;clear hK K))
   all_goals first
    | (refine zy.ret (.inr rfl) Try.results61 ?_;simp only [zu,zo,zn,simprocAttr,implies_true,amz,tys,];simp_all;done)
    | (refine hcont (by simp_all) _ (by refine zk.of' rfl ?_;simp only [wks,reduceIte,Nat.reduceEqDiff,ASt.okB,AV.okB,Nat.reduceLT,implies_true,zm (show k<1152921504606846976 by omega),rsA,rsC,lkC,List.map_cons,List.map_nil]))
  ·have hd:decide ((k:Int)<(s.locks.length:Int))=false:=by simpa using hlt
   rw [z3L hlt] at hn
   repeat' (first|refine T.zh fun K hK=>?_|refine T.block ?_|(refine T.reg (by kernel_rfl) fun K' hK'=>?_;simp only [bz];(repeat' (first|(with_reducible refine WL.fin ?_;refine hK' _ ?_;clear hK' K')|((with_reducible refine WL.step fun K2 hK2=>?_);simp only [simprocAttr,implies_true,amz,tys,hd,lkC];(repeat' with_reducible (first|(refine hK2 _ ?_;clear hK2 K2)|refine And.intro ?_ ?_|intro hb))))))|refine T.skip ?_|refine T.exit ?_|refine T.zf rfl ?_|refine T.ze rfl ?_|refine T.cond rfl (fun hc=>?_) (fun hc=>?_)|refine T.ret ?_|simp only [za,z8,reduceIte,Nat.reduceEqDiff]|((repeat ((fail_if_success (refine hK _ ?_));clear hK K));refine hK _ ?_;clear hK K))
   refine zy.ret (.inr rfl) Try.results61 ?_;simp only [zu,zo,zn,simprocAttr,implies_true,amz,tys,]
   simp [hn,z0r]
def z9h (s:Rs) (o f:Int):Bool:=s.done.any fun c=>c.1==o&&c.2==f
theorem done_ok (s:Rs) (o f:Int) (hl:s.done.length≤1000000):zq Try.prog 63 [rsA s,.int o,.int f] (.bool (z9h s o f)):=by
 simp only [rsA,rsC,List.map_cons,List.map_nil]
 refine zq.of Try.func63 rfl 33 rfl (by decide) (by simp [AV.okB]) ?_
 repeat' (first|refine T.zh fun K hK=>?_|refine T.block ?_|(refine T.reg (by kernel_rfl) fun K' hK'=>?_;simp only [bz];(repeat' (first|(with_reducible refine WL.fin ?_;refine hK' _ ?_;clear hK' K')|((with_reducible refine WL.step fun K2 hK2=>?_);simp only [simprocAttr,implies_true,amz,tys];(repeat' with_reducible (first|(refine hK2 _ ?_;clear hK2 K2)|refine And.intro ?_ ?_|intro hb))))))|refine T.skip ?_|refine T.exit ?_|refine T.zf rfl ?_|refine T.ze rfl ?_|refine T.cond rfl (fun hc=>?_) (fun hc=>?_)|refine T.ret ?_|simp only [za,z8,reduceIte,Nat.reduceEqDiff]|((repeat ((fail_if_success (refine hK _ ?_));clear hK K));refine hK _ ?_;clear hK K))
 refine T.qc (fun k:Nat=>⟨[(0,rsA s),(1,.int o),(2,.int f),(3,.ptr 0 0),(6,.bool false),(7,.int k)],[(0,.box 66 ((rsC s).map .p))],33,1⟩) (fun k=>k≤s.done.length∧z9h s o f=(s.done.drop k).any fun c=>c.1==o&&c.2==f) (fun k=>s.done.length-k) 0 ⟨Nat.zero_le _,rfl⟩ (by refine zk.of' rfl ?_;simp only [wks,reduceIte,Nat.reduceEqDiff,ASt.okB,AV.okB,Nat.reduceLT,implies_true,Int.natCast_zero,rsA,rsC,List.map_cons,List.map_nil]) ?_
 ·rintro k ⟨hk,hn⟩ KL hKL
  simp only [rsA,rsC,List.map_cons,List.map_nil]
  by_cases hlt:k<s.done.length
  ·obtain ⟨x,hx⟩:=zT hlt
   have hd:decide ((k:Int)<(s.done.length:Int))=true:=by simpa using hlt
   rw [drop_at hx,List.any_cons] at hn
   have hcont:(z9h s o f=(s.done.drop (k+1)).any fun c=>c.1==o&&c.2==f) → ∀ s',zk s' _→KL s':=fun h s' hw=>hKL s' (k+1) hw ⟨by omega,h⟩ (by omega)
   repeat' (first|refine T.zh fun K hK=>?_|refine T.block ?_|(refine T.reg (by kernel_rfl) fun K' hK'=>?_;simp only [bz];(repeat' (first|(with_reducible refine WL.fin ?_;refine hK' _ ?_;clear hK' K')|((with_reducible refine WL.step fun K2 hK2=>?_);simp only [simprocAttr,implies_true,amz,tys,hx,hd,loC];(repeat' with_reducible (first|(refine hK2 _ ?_;clear hK2 K2)|refine And.intro ?_ ?_|intro hb))))))|refine T.skip ?_|refine T.exit ?_|refine T.zf rfl ?_|refine T.ze rfl ?_|refine T.cond rfl (fun hc=>?_) (fun hc=>?_)|refine T.ret ?_|simp only [za,z8,reduceIte,Nat.reduceEqDiff]|((repeat ((fail_if_success (refine hK _ ?_));clear hK K));refine hK _ ?_;clear hK K))
   all_goals first
    | (refine zy.ret (.inr rfl) Try.results63 ?_;simp only [zu,zo,zn,simprocAttr,implies_true,amz,tys,];simp_all;done)
    | (refine hcont (by simp_all) _ (by refine zk.of' rfl ?_;simp only [wks,reduceIte,Nat.reduceEqDiff,ASt.okB,AV.okB,Nat.reduceLT,implies_true,zm (show k<1152921504606846976 by omega),rsA,rsC,List.map_cons,List.map_nil]))
  ·have hd:decide ((k:Int)<(s.done.length:Int))=false:=by simpa using hlt
   rw [z3L hlt] at hn
   repeat' (first|refine T.zh fun K hK=>?_|refine T.block ?_|(refine T.reg (by kernel_rfl) fun K' hK'=>?_;simp only [bz];(repeat' (first|(with_reducible refine WL.fin ?_;refine hK' _ ?_;clear hK' K')|((with_reducible refine WL.step fun K2 hK2=>?_);simp only [simprocAttr,implies_true,amz,tys,hd];(repeat' with_reducible (first|(refine hK2 _ ?_;clear hK2 K2)|refine And.intro ?_ ?_|intro hb))))))|refine T.skip ?_|refine T.exit ?_|refine T.zf rfl ?_|refine T.ze rfl ?_|refine T.cond rfl (fun hc=>?_) (fun hc=>?_)|refine T.ret ?_|simp only [za,z8,reduceIte,Nat.reduceEqDiff]|((repeat ((fail_if_success (refine hK _ ?_));clear hK K));refine hK _ ?_;clear hK K))
   refine zy.ret (.inr rfl) Try.results63 ?_;simp only [zu,zo,zn,simprocAttr,implies_true,amz,tys,]
   simp [hn]
def z3P (c:Lk) (x:Lk):Bool:=x.obj != c.obj||x.off != c.off
def setL (s:Rs) (c:Lk):Rs := { s with locks:=s.locks.filter (z3P c) ++ [c] }
theorem z7R (s:Rs) (c:Lk) (hl:s.locks.length≤1000000):zq Try.prog 62 [rsA s,lkA c] (rsA (setL s c)):=by
 simp only [rsA,rsC,List.map_cons,List.map_nil,lkA,lkC]
 refine zq.of Try.func62 rfl 48 rfl (by decide) (by simp [AV.okB]) ?_
 repeat' (first|refine T.zh fun K hK=>?_|refine T.block ?_|(refine T.reg (by kernel_rfl) fun K' hK'=>?_;simp only [bz];(repeat' (first|(with_reducible refine WL.fin ?_;refine hK' _ ?_;clear hK' K')|((with_reducible refine WL.step fun K2 hK2=>?_);simp only [simprocAttr,implies_true,amz,tys];(repeat' with_reducible (first|(refine hK2 _ ?_;clear hK2 K2)|refine And.intro ?_ ?_|intro hb))))))|refine T.skip ?_|refine T.exit ?_|refine T.zf rfl ?_|refine T.ze rfl ?_|refine T.cond rfl (fun hc=>?_) (fun hc=>?_)|refine T.ret ?_|simp only [za,z8,reduceIte,Nat.reduceEqDiff]|((repeat ((fail_if_success (refine hK _ ?_));clear hK K));refine hK _ ?_;clear hK K))
 refine T.qc (fun k:Nat=>⟨[(0,rsA s),(1,lkA c),(2,.ptr 0 0),(3,.ptr 1 0),(4,.ptr 2 0),(5,.own 3),(6,.int k)],[(3,.row 100 4 (((s.locks.take k).filter (z3P c)).map lkC)),(2,.box 66 [.int 0,.int 0,.p (.val (.slice none 0 0)),.p (.val (.slice none 0 0)),.p (.val (.slice none 0 0)),.p (.val (.slice none 0 0)),.int 0,.int 0,.int 0]),(1,.box 100 ((lkC c).map .p)),(0,.box 66 ((rsC s).map .p))],48,4⟩) (fun k=>k≤s.locks.length) (fun k=>s.locks.length-k) 0 (Nat.zero_le _) ((zk.z5N _ 5 100 4 (show 5<48 by decide) rfl).trans (by refine zk.of' rfl ?_;simp only [wks,reduceIte,Nat.reduceEqDiff,ASt.okB,AV.okB,Nat.reduceLT,implies_true,ASt.add,zH,Int.natCast_zero,rsA,rsC,lkC,lkA,List.map_cons,List.map_nil,List.take_zero,List.filter_nil])) ?_
 ·rintro k hk KL hKL
  simp only [rsA,rsC,List.map_cons,List.map_nil,lkC,lkA]
  have hln:=z7y s.locks k (z3P c)
  have hmx:((s.locks.take k).filter (z3P c)).length+1≤maxLen:=by unfold maxLen;omega
  have hmy:(((s.locks.take k).filter (z3P c)).length+1)*32≤140737488355328:=by omega
  by_cases hlt:k<s.locks.length
  ·obtain ⟨x,hx⟩:=zT hlt
   have hd:decide ((k:Int)<(s.locks.length:Int))=true:=by simpa using hlt
   have hyes:z3P c x=true → ∀ s',zk s' _→KL s':=fun h s' hw=>hKL s' (k+1) (by rw [za6 hx h,List.map_append];exact hw) (by omega) (by omega)
   have hno:z3P c x=false → ∀ s',zk s' _→KL s':=fun h s' hw=>hKL s' (k+1) (by rw [filt_no hx h];exact hw) (by omega) (by omega)
   repeat' (first|refine T.zh fun K hK=>?_|refine T.block ?_|(refine T.reg (by kernel_rfl) fun K' hK'=>?_;simp only [bz];(repeat' (first|(with_reducible refine WL.fin ?_;refine hK' _ ?_;clear hK' K')|((with_reducible refine WL.step fun K2 hK2=>?_);simp only [simprocAttr,implies_true,amz,tys,hx,hd,lkC];(repeat' with_reducible (first|(refine hK2 _ ?_;clear hK2 K2)|refine And.intro ?_ ?_|intro hb))))))|refine T.skip ?_|refine T.exit ?_|refine T.zf rfl ?_|refine T.ze rfl ?_|refine T.cond rfl (fun hc=>?_) (fun hc=>?_)|refine T.ret ?_|simp only [za,z8,reduceIte,Nat.reduceEqDiff]|((repeat ((fail_if_success (refine hK _ ?_));clear hK K));refine hK _ ?_;clear hK K))
   refine T.drw 20 (by kernel_rfl) (by kernel_rfl) fun K' hK'=>?_;simp only [List.map_cons,List.map_nil];(repeat' (first|(with_reducible refine WL.fin ?_;refine hK' _ ?_;clear hK' K')|(with_reducible refine WD.fin ?_)|((with_reducible first|refine WL.step fun K2 hK2=>?_|refine WD.step fun K2 hK2=>?_);simp only [simprocAttr,implies_true,amz,tys,hx,hd,lkC];(repeat' with_reducible (first|(refine hK2 _ ?_;clear hK2 K2)|refine And.intro ?_ ?_|intro hb)))));all_goals ((try simp only [za,z8,reduceIte,Nat.reduceEqDiff]);(try ((repeat ((fail_if_success (refine hK _ ?_));clear hK K));refine hK _ ?_;clear hK K)))
   all_goals repeat' (first|refine T.zh fun K hK=>?_|refine T.block ?_|(refine T.reg (by kernel_rfl) fun K' hK'=>?_;simp only [bz];(repeat' (first|(with_reducible refine WL.fin ?_;refine hK' _ ?_;clear hK' K')|((with_reducible refine WL.step fun K2 hK2=>?_);simp only [simprocAttr,implies_true,amz,tys,hx,hd,lkC,hmx,hmy,ml_1];(repeat' with_reducible (first|(refine hK2 _ ?_;clear hK2 K2)|refine And.intro ?_ ?_|intro hb))))))|refine T.skip ?_|refine T.exit ?_|refine T.zf rfl ?_|refine T.ze rfl ?_|refine T.cond rfl (fun hc=>?_) (fun hc=>?_)|refine T.ret ?_|simp only [za,z8,reduceIte,Nat.reduceEqDiff]|((repeat ((fail_if_success (refine hK _ ?_));clear hK K));refine hK _ ?_;clear hK K))
   all_goals first
    | (refine hyes ?_ _ ?_;(focus (simp [z3P, *];done));refine zk.of' rfl ?_;simp only [wks,reduceIte,Nat.reduceEqDiff,ASt.okB,AV.okB,Nat.reduceLT,implies_true,zm (show k<1152921504606846976 by omega),rsA,rsC,lkC,lkA,List.map_cons,List.map_nil];done)
    | (refine hno ?_ _ ?_;(focus (simp [z3P, *];done));refine zk.of' rfl ?_;simp only [wks,reduceIte,Nat.reduceEqDiff,ASt.okB,AV.okB,Nat.reduceLT,implies_true,zm (show k<1152921504606846976 by omega),rsA,rsC,lkC,lkA,List.map_cons,List.map_nil];done)
  ·have hd:decide ((k:Int)<(s.locks.length:Int))=false:=by simpa using hlt
   repeat' (first|refine T.zh fun K hK=>?_|refine T.block ?_|(refine T.reg (by kernel_rfl) fun K' hK'=>?_;simp only [bz];(repeat' (first|(with_reducible refine WL.fin ?_;refine hK' _ ?_;clear hK' K')|((with_reducible refine WL.step fun K2 hK2=>?_);simp only [simprocAttr,implies_true,amz,tys,hd,lkC,hmx,hmy,ml_1];(repeat' with_reducible (first|(refine hK2 _ ?_;clear hK2 K2)|refine And.intro ?_ ?_|intro hb))))))|refine T.skip ?_|refine T.exit ?_|refine T.zf rfl ?_|refine T.ze rfl ?_|refine T.cond rfl (fun hc=>?_) (fun hc=>?_)|refine T.ret ?_|simp only [za,z8,reduceIte,Nat.reduceEqDiff]|((repeat ((fail_if_success (refine hK _ ?_));clear hK K));refine hK _ ?_;clear hK K))
   refine zy.retW (.inr rfl) Try.results62 (zk.frz _ 3) ?_;simp only [zu,zo,zn,ASt.frz,ASt.subst,AO.z3a,AO.z4m,AO.z5a,AO.z5l,AO.z2K,AV.z8l,AV.z5b,AV.z4f,AV.z3G,AV.z3w,AV.z2Q,AV.z3O,AV.z3n,AV.z5r,AV.z2J,List.filter_cons,List.filter_nil,bne_self_eq_false,Nat.reduceBneDiff,Nat.reduceEqDiff,Bool.false_eq_true,simprocAttr,implies_true,amz,tys]
   rw [List.take_of_length_le (by omega)]
   simp [setL,lkC]
def rs0:Rs:=⟨0,1,[],[],[],[],0,0,0⟩
def zaf (c:Cn):Cn := { c with sent:=IntKind.i64.wrap (c.sent+1) }
def za9 (c:Cn):Cn := { c with recv:=IntKind.i64.wrap (c.recv+1) }
def z0x (s:Rs) (e:Ev):Rs:=if e.kind==15 then setC s (zaf (z0e e.obj e.n s.chans)) else if e.kind==17 then setC s (za9 (z0e e.obj e.n s.chans)) else s
theorem z5e (s:Rs) (e:Ev) (hl:s.chans.length≤1000000):zq Try.prog 57 [rsA s,evA e] (rsA (z0x s e)):=by
 simp only [rsA,rsC,List.map_cons,List.map_nil,evA,evC]
 refine zq.of Try.func57 rfl 30 rfl (by decide) (by simp [AV.okB]) ?_
 repeat' (first|refine T.zh fun K hK=>?_|refine T.block ?_|(refine T.reg (by kernel_rfl) fun K' hK'=>?_;simp only [bz];(repeat' (first|(with_reducible refine WL.fin ?_;refine hK' _ ?_;clear hK' K')|((with_reducible refine WL.step fun K2 hK2=>?_);simp only [simprocAttr,implies_true,amz,tys,cnA,cnC,rsA,rsC];(repeat' (first|with_reducible (first|(refine hK2 _ ?_;clear hK2 K2)|refine And.intro ?_ ?_|intro hb)|((first|(with_reducible apply zg)|(with_reducible apply zl));case h=>exact CallV.plain (Ent.of Try.func58 (by kernel_rfl) rfl) (chan_ok s e.obj e.n hl) (by simp [AV.okB]))|((first|(with_reducible apply zg)|(with_reducible apply zl));case h=>exact CallV.plain (Ent.of Try.func60 (by kernel_rfl) rfl) (z8T s (zaf (z0e e.obj e.n s.chans)) hl) (by simp [AV.okB]))|((first|(with_reducible apply zg)|(with_reducible apply zl));case h=>exact CallV.plain (Ent.of Try.func60 (by kernel_rfl) rfl) (z8T s (za9 (z0e e.obj e.n s.chans)) hl) (by simp [AV.okB]))))))))|refine T.skip ?_|refine T.exit ?_|refine T.zf rfl ?_|refine T.ze rfl ?_|refine T.cond rfl (fun hc=>?_) (fun hc=>?_)|refine T.ret ?_|simp only [za,z8,reduceIte,Nat.reduceEqDiff]|((repeat ((fail_if_success (refine hK _ ?_));clear hK K));refine hK _ ?_;clear hK K))
 all_goals (refine zy.ret (.inr rfl) Try.results57 ?_;simp only [zu,zo,zn,simprocAttr,implies_true,amz,tys,];simp [z0x, *])
def openB (s:Rs) (e:Ev) (nx:List Wt):Rs := { s with next:=nx,obj:=e.obj,k:=e.k,n:=e.n }
def z3x (s:Rs) (e:Ev) (nx:List Wt):Rs:=z0x (openB s e nx) e
theorem z5F (s:Rs) (e:Ev) (nx:List Wt) (hl:s.chans.length≤1000000):zq Try.prog 59 [rsA s,evA e,.p (.seq 3 (nx.map wtC))] (.tup [rsA (z3x s e nx),.bool true]):=by
 simp only [rsA,rsC,List.map_cons,List.map_nil,evA,evC]
 refine zq.of Try.func59 rfl 22 rfl (by decide) (by simp [AV.okB]) ?_
 repeat' (first|refine T.zh fun K hK=>?_|refine T.block ?_|(refine T.reg (by kernel_rfl) fun K' hK'=>?_;simp only [bz];(repeat' (first|(with_reducible refine WL.fin ?_;refine hK' _ ?_;clear hK' K')|((with_reducible refine WL.step fun K2 hK2=>?_);simp only [simprocAttr,implies_true,amz,tys];(repeat' with_reducible (first|(refine hK2 _ ?_;clear hK2 K2)|refine And.intro ?_ ?_|intro hb))))))|refine T.skip ?_|refine T.exit ?_|refine T.zf rfl ?_|refine T.ze rfl ?_|refine T.cond rfl (fun hc=>?_) (fun hc=>?_)|refine T.ret ?_|simp only [za,z8,reduceIte,Nat.reduceEqDiff]|((repeat ((fail_if_success (refine hK _ ?_));clear hK K));refine hK _ ?_;clear hK K))
 refine T.comm [some (0,0),some (0,1),some (0,1),some (0,2),some (0,2),some (0,3),some (0,3),some (0,0),none,some (1,1),none,some (2,2),none,some (3,3),none] (by kernel_rfl) (by kernel_rfl) fun K' hK'=>?_;simp only [List.map_cons,List.map_nil,List.zip_cons_cons,List.zip_nil_left];(repeat' (first|(with_reducible refine WC.fin ?_;refine hK' _ ?_;clear hK' K')|((first|(with_reducible refine WC.z0P fun K2 hK2=>?_)|(with_reducible refine WC.stepW fun K2 hK2=>?_));simp only [simprocAttr,implies_true,amz,WCg,WCv,WOw,allP,dav,Chk,List.filter_cons,List.filter_nil,bne_self_eq_false,Nat.reduceBneDiff,Bool.false_eq_true,tys];(repeat' (first|(with_reducible refine hK2 _ _ ?_;clear hK2 K2)|with_reducible (first|(refine hK2 _ ?_;clear hK2 K2)|refine And.intro ?_ ?_|intro hb)|(with_reducible rfl)|((with_reducible show @Eq ASt _ _);rfl) )))));all_goals ((try simp only [za,z8,reduceIte,Nat.reduceEqDiff]);(try ((repeat ((fail_if_success (refine hK _ ?_));clear hK K));refine hK _ ?_;clear hK K)))
 repeat' (first|refine T.zh fun K hK=>?_|refine T.block ?_|(refine T.reg (by kernel_rfl) fun K' hK'=>?_;simp only [bz];(repeat' (first|(with_reducible refine WL.fin ?_;refine hK' _ ?_;clear hK' K')|((with_reducible refine WL.step fun K2 hK2=>?_);simp only [simprocAttr,implies_true,amz,tys,rsA,rsC];(repeat' (first|with_reducible (first|(refine hK2 _ ?_;clear hK2 K2)|refine And.intro ?_ ?_|intro hb)|((first|(with_reducible apply zg)|(with_reducible apply zl));case h=>exact CallV.plain (Ent.of Try.func57 (by kernel_rfl) rfl) (z5e (openB s e nx) e hl) (by simp [AV.okB]))))))))|refine T.skip ?_|refine T.exit ?_|refine T.zf rfl ?_|refine T.ze rfl ?_|refine T.cond rfl (fun hc=>?_) (fun hc=>?_)|refine T.ret ?_|simp only [za,z8,reduceIte,Nat.reduceEqDiff]|((repeat ((fail_if_success (refine hK _ ?_));clear hK K));refine hK _ ?_;clear hK K))
 all_goals (refine zy.ret (.inr rfl) Try.results59 ?_;simp only [zu,zo,zn,simprocAttr,implies_true,amz,tys,];simp [z3x, *])
def z2k (k:Int):Bool := !(decide (k<1)||decide (20<k))
def nameL:List (List PV) := [[.val (.string ⟨#[]⟩)],[.val (.string ⟨#[114,101,97,100]⟩)],[.val (.string ⟨#[119,114,105,116,101]⟩)],[.val (.string ⟨#[97,116,111,109,105,99,45,114,101,97,100]⟩)],[.val (.string ⟨#[97,116,111,109,105,99,45,119,114,105,116,101]⟩)],[.val (.string ⟨#[97,116,111,109,105,99,45,98,111,116,104]⟩)],[.val (.string ⟨#[108,111,99,107]⟩)],[.val (.string ⟨#[117,110,108,111,99,107]⟩)],[.val (.string ⟨#[114,108,111,99,107]⟩)],[.val (.string ⟨#[114,117,110,108,111,99,107]⟩)],[.val (.string ⟨#[100,111,110,101]⟩)],[.val (.string ⟨#[119,97,105,116]⟩)],[.val (.string ⟨#[111,110,99,101,45,101,110,100]⟩)],[.val (.string ⟨#[111,110,99,101,45,115,101,101,110]⟩)],[.val (.string ⟨#[103,111]⟩)],[.val (.string ⟨#[115,101,110,100,45,115,116,97,114,116]⟩)],[.val (.string ⟨#[115,101,110,100,45,101,110,100]⟩)],[.val (.string ⟨#[114,101,99,118,45,115,116,97,114,116]⟩)],[.val (.string ⟨#[114,101,99,118,45,101,110,100]⟩)],[.val (.string ⟨#[99,108,111,115,101]⟩)],[.val (.string ⟨#[114,101,99,118,45,99,108,111,115,101,100]⟩)]]
def z7W (k:Int):ByteArray:=if z2k k=true then (match nameL[k.toNat]? with|some [.val (.string b)]=>b|_=>⟨#[]⟩) else ⟨#[]⟩
theorem name_ok (k:Int):zq Try.prog 56 [.int k] (.p (.val (.string (z7W k)))):=by
 refine zq.of Try.func56 rfl 15 rfl (by decide) (by simp [AV.okB]) ?_
 by_cases hk:z2k k=true
 ·have h1:decide (k<1)=false:=by simp_all [z2k]
  have h2:decide (20<k)=false:=by simp_all [z2k]
  obtain ⟨n,rfl⟩ : ∃ n:Nat,k=n:=⟨k.toNat,by simp at h1;omega⟩
  have hn:n<21:=by simp at h2;omega
  have hx : ∃ b,nameL[n]? = some [.val (.string b)]∧z7W n=b:=by
   unfold z7W
   rw [hk]
   revert hn
   clear h1 h2 hk
   intro hn
   rcases n with _|_|_|_|_|_|_|_|_|_|_|_|_|_|_|_|_|_|_|_|_|n <;> first|exact ⟨_,rfl,rfl⟩|omega
  obtain ⟨b,hb1,hb2⟩:=hx
  rw [hb2]
  unfold nameL at hb1
  repeat' (first|refine T.zh fun K hK=>?_|refine T.block ?_|(refine T.reg (by kernel_rfl) fun K' hK'=>?_;simp only [bz];(repeat' (first|(with_reducible refine WL.fin ?_;refine hK' _ ?_;clear hK' K')|((with_reducible refine WL.step fun K2 hK2=>?_);simp only [simprocAttr,implies_true,amz,tys,ml_21,h1,h2,hb1,Nat.reduceDiv];(repeat' with_reducible (first|(refine hK2 _ ?_;clear hK2 K2)|refine And.intro ?_ ?_|intro hb))))))|refine T.skip ?_|refine T.exit ?_|refine T.zf rfl ?_|refine T.ze rfl ?_|refine T.cond rfl (fun hc=>?_) (fun hc=>?_)|refine T.ret ?_|simp only [za,z8,reduceIte,Nat.reduceEqDiff]|((repeat ((fail_if_success (refine hK _ ?_));clear hK K));refine hK _ ?_;clear hK K))
  all_goals (refine zy.ret (.inr rfl) Try.results56 ?_;simp only [zu,zo,zn,simprocAttr,implies_true,amz,tys,])
 ·have hd:(decide (k<1)||decide (20<k))=true:=by simp [z2k] at hk;simp;omega
  have hn:z7W k=⟨#[]⟩:=by simp [z7W,hk]
  rw [hn]
  repeat' (first|refine T.zh fun K hK=>?_|refine T.block ?_|(refine T.reg (by kernel_rfl) fun K' hK'=>?_;simp only [bz];(repeat' (first|(with_reducible refine WL.fin ?_;refine hK' _ ?_;clear hK' K')|((with_reducible refine WL.step fun K2 hK2=>?_);simp only [simprocAttr,implies_true,amz,tys,ml_21,Nat.reduceDiv];(repeat' with_reducible (first|(refine hK2 _ ?_;clear hK2 K2)|refine And.intro ?_ ?_|intro hb))))))|refine T.skip ?_|refine T.exit ?_|refine T.zf rfl ?_|refine T.ze rfl ?_|refine T.cond rfl (fun hc=>?_) (fun hc=>?_)|refine T.ret ?_|simp only [za,z8,reduceIte,Nat.reduceEqDiff]|((repeat ((fail_if_success (refine hK _ ?_));clear hK K));refine hK _ ?_;clear hK K))
  all_goals first
   | ((refine zy.ret (.inr rfl) Try.results56 ?_;simp only [zu,zo,zn,simprocAttr,implies_true,amz,tys,]);done)
   | (exfalso;simp_all;done)
theorem z6V (k:Int):((z7W k).toList==(ByteArray.mk #[]).toList) = !z2k k:=by
 by_cases hk:z2k k=true
 ·have h1:decide (k<1)=false:=by simp_all [z2k]
  have h2:decide (20<k)=false:=by simp_all [z2k]
  obtain ⟨n,rfl⟩ : ∃ n:Nat,k=n:=⟨k.toNat,by simp at h1;omega⟩
  have hn:n<21:=by simp at h2;omega
  have h0 : 1≤n:=by simp at h1;omega
  rw [hk]
  unfold z7W
  rw [hk]
  clear h1 h2 hk
  rcases n with _|_|_|_|_|_|_|_|_|_|_|_|_|_|_|_|_|_|_|_|_|n <;> first|(exfalso;omega)|(rw [ByteArray.toList_eq,ByteArray.toList_eq];rfl)
 ·have hn:z7W k=⟨#[]⟩:=by simp [z7W,hk]
  rw [hn]
  simp [hk]
def z2t (e:Ev):List Int := [e.obj,e.off,e.k,e.n,e.fn,e.pc,e.st]
def okF (x:Int):Bool := !(decide (x<0)||decide (2147483647<x))
def kindB (e:Ev):Bool :=
 if (e.kind==14)=true then e.obj==0&&e.off==0&&e.n==0&&decide (0<e.k)&&decide (e.k<8)
 else if (e.kind==15||e.kind==16||e.kind==17||e.kind==18)=true then e.off==0&&decide (e.n≤64)
 else if (e.kind==19||e.kind==20)=true then e.off==0&&e.k==0&&decide (e.n≤64)
 else e.k==0&&e.n==0
def z5x (e:Ev):Bool := !(decide (e.g<0)||decide (8≤e.g) || !z2k e.kind)
def z04 (e:Ev):Bool:=z5x e&&((z2t e).all okF&&kindB e)
theorem z6q (e:Ev):zq Try.prog 46 [evA e] (.bool (z04 e)):=by
 simp only [evA,evC,List.map_cons,List.map_nil]
 refine zq.of Try.func46 rfl 116 rfl (by decide) (by simp [AV.okB]) ?_
 by_cases hh:z5x e=true
 ·have h1:decide (e.g<0)=false:=by simp_all [z5x]
  have h2:decide (8≤e.g)=false:=by simp_all [z5x]
  have h3:z2k e.kind=true:=by simp_all [z5x]
  repeat' (first|refine T.zh fun K hK=>?_|refine T.block ?_|(refine T.reg (by kernel_rfl) fun K' hK'=>?_;simp only [bz];(repeat' (first|(with_reducible refine WL.fin ?_;refine hK' _ ?_;clear hK' K')|((with_reducible refine WL.step fun K2 hK2=>?_);simp only [simprocAttr,implies_true,amz,tys,ml_7,h1,h2,h3,z6V,Nat.reduceDiv];(repeat' (first|with_reducible (first|(refine hK2 _ ?_;clear hK2 K2)|refine And.intro ?_ ?_|intro hb)|((first|(with_reducible apply zg)|(with_reducible apply zl));case h=>exact CallV.plain (Ent.of Try.func56 (by kernel_rfl) rfl) (name_ok _) (by simp [AV.okB]))))))))|refine T.skip ?_|refine T.exit ?_|refine T.zf rfl ?_|refine T.ze rfl ?_|refine T.cond rfl (fun hc=>?_) (fun hc=>?_)|refine T.ret ?_|simp only [za,z8,reduceIte,Nat.reduceEqDiff]|((repeat ((fail_if_success (refine hK _ ?_));clear hK K));refine hK _ ?_;clear hK K))
  refine T.qc (fun k:Nat=>⟨[(0,evA e),(1,.ptr 0 0),(2,.bool false),(3,.p (.seq 1 ((z2t e).map fun x => [pI x]))),(4,.int k)],[(0,.box 39 ((evC e).map .p))],116,1⟩) (fun k=>k≤7∧(z2t e).all okF=((z2t e).drop k).all okF) (fun k => 7-k) 0 ⟨Nat.zero_le _,rfl⟩ (by refine zk.of' rfl ?_;simp only [wks,reduceIte,Nat.reduceEqDiff,ASt.okB,AV.okB,Nat.reduceLT,implies_true,Int.natCast_zero,evA,evC,z2t,pI,List.map_cons,List.map_nil]) ?_
  rintro k ⟨hk,hn⟩ KL hKL
  simp only [evA,evC,List.map_cons,List.map_nil]
  have hlen:(z2t e).length=7:=rfl
  by_cases hlt:k<(z2t e).length
  ·obtain ⟨x,hx⟩:=zT hlt
   have hd:decide ((k:Int)<((z2t e).length:Int))=true:=by simpa using hlt
   rw [drop_at hx,List.all_cons] at hn
   have hcont:okF x=true → ∀ s',zk s' _→KL s':=fun h s' hw=>hKL s' (k+1) hw ⟨by omega,by rw [hn,h];rfl⟩ (by omega)
   have hbad:okF x=false→z04 e=false:=fun h=>by simp [z04,hn,h]
   repeat' (first|refine T.zh fun K hK=>?_|refine T.block ?_|(refine T.reg (by kernel_rfl) fun K' hK'=>?_;simp only [bz];(repeat' (first|(with_reducible refine WL.fin ?_;refine hK' _ ?_;clear hK' K')|((with_reducible refine WL.step fun K2 hK2=>?_);simp only [simprocAttr,implies_true,amz,tys,hx,hd];(repeat' with_reducible (first|(refine hK2 _ ?_;clear hK2 K2)|refine And.intro ?_ ?_|intro hb))))))|refine T.skip ?_|refine T.exit ?_|refine T.zf rfl ?_|refine T.ze rfl ?_|refine T.cond rfl (fun hc=>?_) (fun hc=>?_)|refine T.ret ?_|simp only [za,z8,reduceIte,Nat.reduceEqDiff]|((repeat ((fail_if_success (refine hK _ ?_));clear hK K));refine hK _ ?_;clear hK K))
   all_goals first
    | ((refine zy.ret (.inr rfl) Try.results46 ?_;simp only [zu,zo,zn,simprocAttr,implies_true,amz,tys,]);rw [hbad];(focus (simp [okF, *];done)))
    | (refine hcont ?_ _ ?_;(focus (simp_all [okF];done));refine zk.of' rfl ?_;simp only [wks,reduceIte,Nat.reduceEqDiff,ASt.okB,AV.okB,Nat.reduceLT,implies_true,zm (show k<1152921504606846976 by omega),evA,evC,pI,List.map_cons,List.map_nil];done)
  ·have hd:decide ((k:Int)<((z2t e).length:Int))=false:=by simpa using hlt
   rw [z3L hlt,List.all_nil] at hn
   have hv:z04 e=kindB e:=by simp [z04,hh,hn]
   rw [hv]
   repeat' (first|refine T.zh fun K hK=>?_|refine T.block ?_|(refine T.reg (by kernel_rfl) fun K' hK'=>?_;simp only [bz];(repeat' (first|(with_reducible refine WL.fin ?_;refine hK' _ ?_;clear hK' K')|((with_reducible refine WL.step fun K2 hK2=>?_);simp only [simprocAttr,implies_true,amz,tys,hd];(repeat' with_reducible (first|(refine hK2 _ ?_;clear hK2 K2)|refine And.intro ?_ ?_|intro hb))))))|refine T.skip ?_|refine T.exit ?_|refine T.zf rfl ?_|refine T.ze rfl ?_|refine T.cond rfl (fun hc=>?_) (fun hc=>?_)|refine T.ret ?_|simp only [za,z8,reduceIte,Nat.reduceEqDiff]|((repeat ((fail_if_success (refine hK _ ?_));clear hK K));refine hK _ ?_;clear hK K))
   all_goals first
    | ((refine zy.ret (.inr rfl) Try.results46 ?_;simp only [zu,zo,zn,simprocAttr,implies_true,amz,tys,]);simp [kindB, *];done)
    | (exfalso;simp_all;done)
 ·have hh' : z5x e=false:=by simpa using hh
  have hv:z04 e=false:=by simp [z04,hh']
  rw [hv]
  repeat' (first|refine T.zh fun K hK=>?_|refine T.block ?_|(refine T.reg (by kernel_rfl) fun K' hK'=>?_;simp only [bz];(repeat' (first|(with_reducible refine WL.fin ?_;refine hK' _ ?_;clear hK' K')|((with_reducible refine WL.step fun K2 hK2=>?_);simp only [simprocAttr,implies_true,amz,tys,z6V];(repeat' (first|with_reducible (first|(refine hK2 _ ?_;clear hK2 K2)|refine And.intro ?_ ?_|intro hb)|((first|(with_reducible apply zg)|(with_reducible apply zl));case h=>exact CallV.plain (Ent.of Try.func56 (by kernel_rfl) rfl) (name_ok _) (by simp [AV.okB]))))))))|refine T.skip ?_|refine T.exit ?_|refine T.zf rfl ?_|refine T.ze rfl ?_|refine T.cond rfl (fun hc=>?_) (fun hc=>?_)|refine T.ret ?_|simp only [za,z8,reduceIte,Nat.reduceEqDiff]|((repeat ((fail_if_success (refine hK _ ?_));clear hK K));refine hK _ ?_;clear hK K))
  all_goals first
   | ((refine zy.ret (.inr rfl) Try.results46 ?_;simp only [zu,zo,zn,simprocAttr,implies_true,amz,tys,]);done)
   | (exfalso;simp_all [z5x];done)
def z3k (s:Rs) (e:Ev):Rs × Bool :=
 if ((z0e e.obj e.n s.chans).n != e.n)=true then (s,false)
 else if (e.kind==15)=true then
  if (e.k != (z0e e.obj e.n s.chans).sent||(z0e e.obj e.n s.chans).closed)=true then (s,false)
  else if (decide (0<(z0e e.obj e.n s.chans).n)&&decide (IntKind.i64.wrap ((z0e e.obj e.n s.chans).sent-(z0e e.obj e.n s.chans).recv)<(z0e e.obj e.n s.chans).n))=true then (z3x s e [⟨16,e.g,0⟩],true)
  else if ((z0e e.obj e.n s.chans).n==0&&decide (1<s.gor))=true then (z3x s e [⟨17,-1,e.g⟩,⟨18,-1,0⟩,⟨16,e.g,0⟩],true)
  else (s,false)
 else if (e.kind==17)=true then
  if (e.k != (z0e e.obj e.n s.chans).recv)=true then (s,false)
  else if decide ((z0e e.obj e.n s.chans).recv<(z0e e.obj e.n s.chans).sent)=true then (z3x s e [⟨18,e.g,0⟩],true)
  else if (!(z0e e.obj e.n s.chans).closed&&decide (1<s.gor))=true then (z3x s e [⟨15,-1,e.g⟩,⟨18,e.g,0⟩,⟨16,-1,0⟩],true)
  else (s,false)
 else if (e.kind==19)=true then
  if (!(z0e e.obj e.n s.chans).closed)=true then (setC s { z0e e.obj e.n s.chans with closed:=true },true) else (s,false)
 else if (e.kind==20)=true then (s,(z0e e.obj e.n s.chans).closed&&(z0e e.obj e.n s.chans).sent==(z0e e.obj e.n s.chans).recv)
 else (s,false)
theorem trans_ok (s:Rs) (e:Ev) (hl:s.chans.length≤1000000):zq Try.prog 49 [rsA s,evA e] (.tup [rsA (z3k s e).1,.bool (z3k s e).2]):=by
 simp only [rsA,rsC,List.map_cons,List.map_nil,evA,evC]
 refine zq.of Try.func49 rfl 141 rfl (by decide) (by simp [AV.okB]) ?_
 repeat' (first|refine T.zh fun K hK=>?_|refine T.block ?_|(refine T.reg (by kernel_rfl) fun K' hK'=>?_;simp only [bz];(repeat' (first|(with_reducible refine WL.fin ?_;refine hK' _ ?_;clear hK' K')|((with_reducible refine WL.step fun K2 hK2=>?_);simp only [simprocAttr,implies_true,amz,tys,cnA,cnC,rsA,rsC,ml_1,ml_3];(repeat' (first|with_reducible (first|(refine hK2 _ ?_;clear hK2 K2)|refine And.intro ?_ ?_|intro hb)|((first|(with_reducible apply zg)|(with_reducible apply zl));case h=>exact CallV.plain (Ent.of Try.func58 (by kernel_rfl) rfl) (chan_ok s e.obj e.n hl) (by simp [AV.okB]))|((first|(with_reducible apply zg)|(with_reducible apply zl));case h=>exact CallV.plain (Ent.of Try.func60 (by kernel_rfl) rfl) (z8T s { z0e e.obj e.n s.chans with closed:=true } hl) (by simp [AV.okB]))|((first|(with_reducible apply zg)|(with_reducible apply zl));case h=>exact CallV.plain (Ent.of Try.func59 (by kernel_rfl) rfl) (z5F s e [⟨16,e.g,0⟩] hl) (by simp [AV.okB]))|((first|(with_reducible apply zg)|(with_reducible apply zl));case h=>exact CallV.plain (Ent.of Try.func59 (by kernel_rfl) rfl) (z5F s e [⟨17,-1,e.g⟩,⟨18,-1,0⟩,⟨16,e.g,0⟩] hl) (by simp [AV.okB]))|((first|(with_reducible apply zg)|(with_reducible apply zl));case h=>exact CallV.plain (Ent.of Try.func59 (by kernel_rfl) rfl) (z5F s e [⟨18,e.g,0⟩] hl) (by simp [AV.okB]))|((first|(with_reducible apply zg)|(with_reducible apply zl));case h=>exact CallV.plain (Ent.of Try.func59 (by kernel_rfl) rfl) (z5F s e [⟨15,-1,e.g⟩,⟨18,e.g,0⟩,⟨16,-1,0⟩] hl) (by simp [AV.okB]))))))))|refine T.skip ?_|refine T.exit ?_|refine T.zf rfl ?_|refine T.ze rfl ?_|refine T.cond rfl (fun hc=>?_) (fun hc=>?_)|refine T.ret ?_|simp only [za,z8,reduceIte,Nat.reduceEqDiff]|((repeat ((fail_if_success (refine hK _ ?_));clear hK K));refine hK _ ?_;clear hK K))
 all_goals (try refine T.comm [some (0,0),some (0,1),some (0,1),some (0,0),some (0,1),some (0,1),some (0,1),some (0,1),some (0,1),some (0,1),none,some (1,1)] (by kernel_rfl) (by kernel_rfl) fun K' hK'=>?_;simp only [List.map_cons,List.map_nil,List.zip_cons_cons,List.zip_nil_left];(repeat' (first|(with_reducible refine WC.fin ?_;refine hK' _ ?_;clear hK' K')|((first|(with_reducible refine WC.z0P fun K2 hK2=>?_)|(with_reducible refine WC.stepW fun K2 hK2=>?_));simp only [simprocAttr,implies_true,amz,WCg,WCv,WOw,allP,dav,Chk,List.filter_cons,List.filter_nil,bne_self_eq_false,Nat.reduceBneDiff,Bool.false_eq_true,tys,cnA,cnC,rsA,rsC];(repeat' (first|(with_reducible refine hK2 _ _ ?_;clear hK2 K2)|with_reducible (first|(refine hK2 _ ?_;clear hK2 K2)|refine And.intro ?_ ?_|intro hb)|(with_reducible rfl)|((with_reducible show @Eq ASt _ _);rfl) )))));all_goals ((try simp only [za,z8,reduceIte,Nat.reduceEqDiff]);(try ((repeat ((fail_if_success (refine hK _ ?_));clear hK K));refine hK _ ?_;clear hK K))))
 all_goals repeat' (first|refine T.zh fun K hK=>?_|refine T.block ?_|(refine T.reg (by kernel_rfl) fun K' hK'=>?_;simp only [bz];(repeat' (first|(with_reducible refine WL.fin ?_;refine hK' _ ?_;clear hK' K')|((with_reducible refine WL.step fun K2 hK2=>?_);simp only [simprocAttr,implies_true,amz,tys];(repeat' with_reducible (first|(refine hK2 _ ?_;clear hK2 K2)|refine And.intro ?_ ?_|intro hb))))))|refine T.skip ?_|refine T.exit ?_|refine T.zf rfl ?_|refine T.ze rfl ?_|refine T.cond rfl (fun hc=>?_) (fun hc=>?_)|refine T.ret ?_|simp only [za,z8,reduceIte,Nat.reduceEqDiff]|((repeat ((fail_if_success (refine hK _ ?_));clear hK K));refine hK _ ?_;clear hK K))
 all_goals (refine zy.ret (.inr rfl) Try.results49 ?_;simp only [zu,zo,zn,simprocAttr,implies_true,amz,tys,];simp [z3k, *])
def badB (s:Rs) (e:Ev) (w:Wt):Bool:=e.kind != w.kind||e.obj != s.obj||e.k != s.k||e.n != s.n||(decide (0≤w.g)&&e.g != w.g)||(decide (w.g<0)&&e.g==w.not)
def fixW (e:Ev) (w x:Wt):Wt:=if (decide (w.g<0)&&decide (x.g<0))=true then { x with g:=e.g } else x
def z3T (s:Rs) (nx:List Wt):Rs := { s with next:=nx }
def z1e (s:Rs) (e:Ev) (w:Wt) (r:List Wt):Rs × Bool:=if badB s e w=true then (s,false) else (z0x (z3T s (r.map (fixW e w))) e,true)
theorem map_take {α β:Type} {l:List α} {k:Nat} {x : α} (f : α → β) (h:l[k]? = some x):(l.take (k+1)).map f=(l.take k).map f ++ [f x]:=by
 rw [List.take_add_one,h];simp
theorem group_bad (s:Rs) (e:Ev) (w:Wt) (r:List Wt) (hs:s.next=w :: r) (hbad:badB s e w=true):zq Try.prog 47 [rsA s,evA e] (.tup [rsA (z1e s e w r).1,.bool (z1e s e w r).2]):=by
 have hres:z1e s e w r=(s,false):=by simp [z1e,hbad]
 rw [hres]
 simp only [rsA,rsC,List.map_cons,List.map_nil,evA,evC,hs]
 refine zq.of Try.func47 rfl 97 rfl (by decide) (by simp [AV.okB]) ?_
 repeat' (first|refine T.zh fun K hK=>?_|refine T.block ?_|(refine T.reg (by kernel_rfl) fun K' hK'=>?_;simp only [bz];(repeat' (first|(with_reducible refine WL.fin ?_;refine hK' _ ?_;clear hK' K')|((with_reducible refine WL.step fun K2 hK2=>?_);simp only [simprocAttr,implies_true,amz,tys,List.map_cons,wtC,List.getElem?_cons_zero,Int.toNat_zero,Int.reduceToNat];(repeat' with_reducible (first|(refine hK2 _ ?_;clear hK2 K2)|refine And.intro ?_ ?_|intro hb))))))|refine T.skip ?_|refine T.exit ?_|refine T.zf rfl ?_|refine T.ze rfl ?_|refine T.cond rfl (fun hc=>?_) (fun hc=>?_)|refine T.ret ?_|simp only [za,z8,reduceIte,Nat.reduceEqDiff]|((repeat ((fail_if_success (refine hK _ ?_));clear hK K));refine hK _ ?_;clear hK K))
 all_goals first
  | ((refine zy.ret (.inr rfl) Try.results47 ?_;simp only [zu,zo,zn,simprocAttr,implies_true,amz,tys,wtC]);done)
  | (exfalso;simp_all [badB];done)
  | (exfalso;simp_all [badB];omega)
theorem zam (s:Rs) (e:Ev) (w:Wt) (r:List Wt) (hs:s.next=w :: r) (hl:s.chans.length≤1000000) (hr:r.length≤1000) (hbad' : badB s e w=false):zq Try.prog 47 [rsA s,evA e] (.tup [rsA (z1e s e w r).1,.bool (z1e s e w r).2]):=by
 have hres:z1e s e w r=(z0x (z3T s (r.map (fixW e w))) e,true):=by simp [z1e,hbad']
 rw [hres]
 have hb2:=hbad'
 simp only [badB,Bool.or_eq_false_iff] at hb2
 obtain ⟨⟨⟨⟨⟨b1,b2⟩,b3⟩,b4⟩,b5⟩,b6⟩:=hb2
 simp only [rsA,rsC,List.map_cons,List.map_nil,evA,evC]
 refine zq.of Try.func47 rfl 97 rfl (by decide) (by simp [AV.okB]) ?_
 have two:(decide (0≤w.g)=true∧(e.g != w.g)=false∧decide (w.g<0)=false)∨(decide (0≤w.g)=false∧decide (w.g<0)=true∧(e.g==w.not)=false):=by
  by_cases h0 : 0≤w.g
  ·left;simp_all
  ·right;simp_all
 rcases two with ⟨w1,w2,w3⟩|⟨w1,w3,w2⟩
 ·repeat' (first|refine T.zh fun K hK=>?_|refine T.block ?_|(refine T.reg (by kernel_rfl) fun K' hK'=>?_;simp only [bz];(repeat' (first|(with_reducible refine WL.fin ?_;refine hK' _ ?_;clear hK' K')|((with_reducible refine WL.step fun K2 hK2=>?_);simp only [simprocAttr,implies_true,amz,tys,hs,List.map_cons,wtC,List.getElem?_cons_zero,Int.toNat_zero,Int.reduceToNat,b1,b2,b3,b4,w1,w2,w3];(repeat' with_reducible (first|(refine hK2 _ ?_;clear hK2 K2)|refine And.intro ?_ ?_|intro hb))))))|refine T.skip ?_|refine T.exit ?_|refine T.zf rfl ?_|refine T.ze rfl ?_|refine T.cond rfl (fun hc=>?_) (fun hc=>?_)|refine T.ret ?_|simp only [za,z8,reduceIte,Nat.reduceEqDiff]|((repeat ((fail_if_success (refine hK _ ?_));clear hK K));refine hK _ ?_;clear hK K))
  refine T.qc (fun k:Nat=>⟨[(0,rsA s),(1,evA e),(2,.ptr 0 0),(3,.ptr 1 0),(4,.ptr 2 0),(5,.bool false),(6,.ptr 3 0),(7,.own 4),(8,.int ((k+1:Nat):Int))],[(4,.row 92 3 (((r.take k).map (fixW e w)).map wtC)),(3,.box 92 ((wtC w).map .p)),(2,.box 66 [.int 0,.int 0,.p (.val (.slice none 0 0)),.p (.val (.slice none 0 0)),.p (.val (.slice none 0 0)),.p (.val (.slice none 0 0)),.int 0,.int 0,.int 0]),(1,.box 39 ((evC e).map .p)),(0,.box 66 ((rsC s).map .p))],97,5⟩) (fun k=>k≤r.length) (fun k=>r.length-k) 0 (Nat.zero_le _) ((zk.z5N _ 7 92 3 (show 7<97 by decide) rfl).trans (by refine zk.of' rfl ?_;simp only [wks,reduceIte,Nat.reduceEqDiff,ASt.okB,AV.okB,Nat.reduceLT,implies_true,ASt.add,zH,Int.natCast_zero,rsA,rsC,wtC,evA,evC,List.map_cons,List.map_nil,List.take_zero,List.filter_nil,Nat.zero_add,Int.natCast_one,hs])) ?_
  rintro k hk KL hKL
  simp only [rsA,rsC,List.map_cons,List.map_nil,wtC,evA,evC,hs]
  have hrk:(r.take k).length+1≤2000:=by simp;omega
  have hmx:(r.take k).length+1≤maxLen:=by unfold maxLen;omega
  have hmy:((r.take k).length+1)*24≤140737488355328:=by omega
  by_cases hlt:k<r.length
  ·obtain ⟨x,hx⟩:=zT hlt
   have hd:decide (((k+1:Nat):Int)<((r.length+1:Nat):Int))=true:=by simp;omega
   have hcont : ∀ s',zk s' _→KL s':=fun s' hw=>hKL s' (k+1) (by rw [map_take (fixW e w) hx,List.map_append];exact hw) (by omega) (by omega)
   repeat' (first|refine T.zh fun K hK=>?_|refine T.block ?_|(refine T.reg (by kernel_rfl) fun K' hK'=>?_;simp only [bz];(repeat' (first|(with_reducible refine WL.fin ?_;refine hK' _ ?_;clear hK' K')|((with_reducible refine WL.step fun K2 hK2=>?_);simp only [simprocAttr,implies_true,amz,tys,hx,hd,wtC,hs,List.map_cons,List.getElem?_cons_succ,List.length_cons,w3,hmx,hmy,ml_1];(repeat' with_reducible (first|(refine hK2 _ ?_;clear hK2 K2)|refine And.intro ?_ ?_|intro hb))))))|refine T.skip ?_|refine T.exit ?_|refine T.zf rfl ?_|refine T.ze rfl ?_|refine T.cond rfl (fun hc=>?_) (fun hc=>?_)|refine T.ret ?_|simp only [za,z8,reduceIte,Nat.reduceEqDiff]|((repeat ((fail_if_success (refine hK _ ?_));clear hK K));refine hK _ ?_;clear hK K))
   all_goals (refine hcont _ ?_;refine zk.of' rfl ?_;simp only [wks,reduceIte,Nat.reduceEqDiff,ASt.okB,AV.okB,Nat.reduceLT,implies_true,zm (show k+1<1152921504606846976 by omega),rsA,rsC,wtC,evA,evC,List.map_cons,List.map_nil,hs,fixW,w3,Bool.false_and,Bool.true_and,Bool.false_eq_true,if_false,if_true, *])
  ·have hd:decide (((k+1:Nat):Int)<((r.length+1:Nat):Int))=false:=by simp;omega
   refine T.weak (zk.frz _ 4) ?_;simp only [ASt.frz,List.filter_cons,List.filter_nil,bne_self_eq_false,Nat.reduceBneDiff,Bool.false_eq_true,simprocAttr,implies_true,amz,]
   have ht:r.take k=r:=List.take_of_length_le (by omega)
   rw [ht]
   repeat' (first|refine T.zh fun K hK=>?_|refine T.block ?_|(refine T.reg (by kernel_rfl) fun K' hK'=>?_;simp only [bz];(repeat' (first|(with_reducible refine WL.fin ?_;refine hK' _ ?_;clear hK' K')|((with_reducible refine WL.step fun K2 hK2=>?_);simp only [simprocAttr,implies_true,amz,tys,hd,wtC,List.map_cons,List.length_cons,rsA,rsC];(repeat' (first|with_reducible (first|(refine hK2 _ ?_;clear hK2 K2)|refine And.intro ?_ ?_|intro hb)|((first|(with_reducible apply zg)|(with_reducible apply zl));case h=>exact CallV.plain (Ent.of Try.func57 (by kernel_rfl) rfl) (z5e (z3T s (r.map (fixW e w))) e hl) (by simp [AV.okB]))))))))|refine T.skip ?_|refine T.exit ?_|refine T.zf rfl ?_|refine T.ze rfl ?_|refine T.cond rfl (fun hc=>?_) (fun hc=>?_)|refine T.ret ?_|simp only [za,z8,reduceIte,Nat.reduceEqDiff]|((repeat ((fail_if_success (refine hK _ ?_));clear hK K));refine hK _ ?_;clear hK K))
   all_goals (refine zy.ret (.inr rfl) Try.results47 ?_;simp only [zu,zo,zn,simprocAttr,implies_true,amz,tys,])
 ·repeat' (first|refine T.zh fun K hK=>?_|refine T.block ?_|(refine T.reg (by kernel_rfl) fun K' hK'=>?_;simp only [bz];(repeat' (first|(with_reducible refine WL.fin ?_;refine hK' _ ?_;clear hK' K')|((with_reducible refine WL.step fun K2 hK2=>?_);simp only [simprocAttr,implies_true,amz,tys,hs,List.map_cons,wtC,List.getElem?_cons_zero,Int.toNat_zero,Int.reduceToNat,b1,b2,b3,b4,w1,w2,w3];(repeat' with_reducible (first|(refine hK2 _ ?_;clear hK2 K2)|refine And.intro ?_ ?_|intro hb))))))|refine T.skip ?_|refine T.exit ?_|refine T.zf rfl ?_|refine T.ze rfl ?_|refine T.cond rfl (fun hc=>?_) (fun hc=>?_)|refine T.ret ?_|simp only [za,z8,reduceIte,Nat.reduceEqDiff]|((repeat ((fail_if_success (refine hK _ ?_));clear hK K));refine hK _ ?_;clear hK K))
  refine T.qc (fun k:Nat=>⟨[(0,rsA s),(1,evA e),(2,.ptr 0 0),(3,.ptr 1 0),(4,.ptr 2 0),(5,.bool false),(6,.ptr 3 0),(7,.own 4),(8,.int ((k+1:Nat):Int))],[(4,.row 92 3 (((r.take k).map (fixW e w)).map wtC)),(3,.box 92 ((wtC w).map .p)),(2,.box 66 [.int 0,.int 0,.p (.val (.slice none 0 0)),.p (.val (.slice none 0 0)),.p (.val (.slice none 0 0)),.p (.val (.slice none 0 0)),.int 0,.int 0,.int 0]),(1,.box 39 ((evC e).map .p)),(0,.box 66 ((rsC s).map .p))],97,5⟩) (fun k=>k≤r.length) (fun k=>r.length-k) 0 (Nat.zero_le _) ((zk.z5N _ 7 92 3 (show 7<97 by decide) rfl).trans (by refine zk.of' rfl ?_;simp only [wks,reduceIte,Nat.reduceEqDiff,ASt.okB,AV.okB,Nat.reduceLT,implies_true,ASt.add,zH,Int.natCast_zero,rsA,rsC,wtC,evA,evC,List.map_cons,List.map_nil,List.take_zero,List.filter_nil,Nat.zero_add,Int.natCast_one,hs])) ?_
  rintro k hk KL hKL
  simp only [rsA,rsC,List.map_cons,List.map_nil,wtC,evA,evC,hs]
  have hrk:(r.take k).length+1≤2000:=by simp;omega
  have hmx:(r.take k).length+1≤maxLen:=by unfold maxLen;omega
  have hmy:((r.take k).length+1)*24≤140737488355328:=by omega
  by_cases hlt:k<r.length
  ·obtain ⟨x,hx⟩:=zT hlt
   have hd:decide (((k+1:Nat):Int)<((r.length+1:Nat):Int))=true:=by simp;omega
   have hcont : ∀ s',zk s' _→KL s':=fun s' hw=>hKL s' (k+1) (by rw [map_take (fixW e w) hx,List.map_append];exact hw) (by omega) (by omega)
   repeat' (first|refine T.zh fun K hK=>?_|refine T.block ?_|(refine T.reg (by kernel_rfl) fun K' hK'=>?_;simp only [bz];(repeat' (first|(with_reducible refine WL.fin ?_;refine hK' _ ?_;clear hK' K')|((with_reducible refine WL.step fun K2 hK2=>?_);simp only [simprocAttr,implies_true,amz,tys,hx,hd,wtC,hs,List.map_cons,List.getElem?_cons_succ,List.length_cons,w3,hmx,hmy,ml_1];(repeat' with_reducible (first|(refine hK2 _ ?_;clear hK2 K2)|refine And.intro ?_ ?_|intro hb))))))|refine T.skip ?_|refine T.exit ?_|refine T.zf rfl ?_|refine T.ze rfl ?_|refine T.cond rfl (fun hc=>?_) (fun hc=>?_)|refine T.ret ?_|simp only [za,z8,reduceIte,Nat.reduceEqDiff]|((repeat ((fail_if_success (refine hK _ ?_));clear hK K));refine hK _ ?_;clear hK K))
   all_goals (refine hcont _ ?_;refine zk.of' rfl ?_;simp only [wks,reduceIte,Nat.reduceEqDiff,ASt.okB,AV.okB,Nat.reduceLT,implies_true,zm (show k+1<1152921504606846976 by omega),rsA,rsC,wtC,evA,evC,List.map_cons,List.map_nil,hs,fixW,w3,Bool.false_and,Bool.true_and,Bool.false_eq_true,if_false,if_true, *])
  ·have hd:decide (((k+1:Nat):Int)<((r.length+1:Nat):Int))=false:=by simp;omega
   refine T.weak (zk.frz _ 4) ?_;simp only [ASt.frz,List.filter_cons,List.filter_nil,bne_self_eq_false,Nat.reduceBneDiff,Bool.false_eq_true,simprocAttr,implies_true,amz,]
   have ht:r.take k=r:=List.take_of_length_le (by omega)
   rw [ht]
   repeat' (first|refine T.zh fun K hK=>?_|refine T.block ?_|(refine T.reg (by kernel_rfl) fun K' hK'=>?_;simp only [bz];(repeat' (first|(with_reducible refine WL.fin ?_;refine hK' _ ?_;clear hK' K')|((with_reducible refine WL.step fun K2 hK2=>?_);simp only [simprocAttr,implies_true,amz,tys,hd,wtC,List.map_cons,List.length_cons,rsA,rsC];(repeat' (first|with_reducible (first|(refine hK2 _ ?_;clear hK2 K2)|refine And.intro ?_ ?_|intro hb)|((first|(with_reducible apply zg)|(with_reducible apply zl));case h=>exact CallV.plain (Ent.of Try.func57 (by kernel_rfl) rfl) (z5e (z3T s (r.map (fixW e w))) e hl) (by simp [AV.okB]))))))))|refine T.skip ?_|refine T.exit ?_|refine T.zf rfl ?_|refine T.ze rfl ?_|refine T.cond rfl (fun hc=>?_) (fun hc=>?_)|refine T.ret ?_|simp only [za,z8,reduceIte,Nat.reduceEqDiff]|((repeat ((fail_if_success (refine hK _ ?_));clear hK K));refine hK _ ?_;clear hK K))
   all_goals (refine zy.ret (.inr rfl) Try.results47 ?_;simp only [zu,zo,zn,simprocAttr,implies_true,amz,tys,])
theorem group_ok (s:Rs) (e:Ev) (w:Wt) (r:List Wt) (hs:s.next=w :: r) (hl:s.chans.length≤1000000) (hr:r.length≤1000):zq Try.prog 47 [rsA s,evA e] (.tup [rsA (z1e s e w r).1,.bool (z1e s e w r).2]):=by
 by_cases h:badB s e w=true
 ·exact group_bad s e w r hs h
 ·exact zam s e w r hs hl hr (by simpa using h)
def z6m (m:Lk) (b:Bool):Lk := { m with locked:=b }
def z6f (m:Lk) (d:Int):Lk := { m with readers:=IntKind.i64.wrap d }
def z1f (s:Rs) (e:Ev):Rs × Bool :=
 if (e.kind==6)=true then (setL s (z6m (z0r e.obj e.off s.locks) true),!(z0r e.obj e.off s.locks).locked&&(z0r e.obj e.off s.locks).readers==0)
 else if (e.kind==7)=true then (setL s (z6m (z0r e.obj e.off s.locks) false),!(!(z0r e.obj e.off s.locks).locked))
 else if (e.kind==8)=true then (setL s (z6f (z0r e.obj e.off s.locks) ((z0r e.obj e.off s.locks).readers+1)),!(z0r e.obj e.off s.locks).locked)
 else if (e.kind==9)=true then (setL s (z6f (z0r e.obj e.off s.locks) ((z0r e.obj e.off s.locks).readers-1)),decide (0≤IntKind.i64.wrap ((z0r e.obj e.off s.locks).readers-1)))
 else if (e.kind==12)=true then ({ s with done:=s.done ++ [(e.obj,e.off)] },!z9h s e.obj e.off)
 else if (e.kind==13)=true then (s,z9h s e.obj e.off)
 else if (e.kind==14)=true then ({ s with gor:=IntKind.i64.wrap (s.gor+1) },e.k==s.gor)
 else (s,true)
theorem other_ok (s:Rs) (e:Ev) (hl:s.locks.length≤1000000) (hdn:s.done.length≤1000000):zq Try.prog 50 [rsA s,evA e] (.tup [rsA (z1f s e).1,.bool (z1f s e).2]):=by
 simp only [rsA,rsC,List.map_cons,List.map_nil,evA,evC]
 refine zq.of Try.func50 rfl 109 rfl (by decide) (by simp [AV.okB]) ?_
 have hmx:s.done.length+1≤maxLen:=by unfold maxLen;omega
 have hmw:s.done.length≤maxLen:=by unfold maxLen;omega
 have hmy:(s.done.length+1)*16≤140737488355328:=by omega
 have hmz:s.done.length*16≤140737488355328:=by omega
 by_cases h12:(e.kind==12)=true
 ·have n6:(e.kind==6)=false:=by simp at h12 ⊢;omega
  have n7:(e.kind==7)=false:=by simp at h12 ⊢;omega
  have n8:(e.kind==8)=false:=by simp at h12 ⊢;omega
  have n9:(e.kind==9)=false:=by simp at h12 ⊢;omega
  repeat' (first|refine T.zh fun K hK=>?_|refine T.block ?_|(refine T.reg (by kernel_rfl) fun K' hK'=>?_;simp only [bz];(repeat' (first|(with_reducible refine WL.fin ?_;refine hK' _ ?_;clear hK' K')|((with_reducible refine WL.step fun K2 hK2=>?_);simp only [simprocAttr,implies_true,amz,tys,lkA,lkC,rsA,rsC,n6,n7,n8,n9,h12];(repeat' (first|with_reducible (first|(refine hK2 _ ?_;clear hK2 K2)|refine And.intro ?_ ?_|intro hb)|((first|(with_reducible apply zg)|(with_reducible apply zl));case h=>exact CallV.plain (Ent.of Try.func61 (by kernel_rfl) rfl) (lock_ok s e.obj e.off hl) (by simp [AV.okB]))|((first|(with_reducible apply zg)|(with_reducible apply zl));case h=>exact CallV.plain (Ent.of Try.func63 (by kernel_rfl) rfl) (done_ok s e.obj e.off hdn) (by simp [AV.okB]))))))))|refine T.skip ?_|refine T.exit ?_|refine T.zf rfl ?_|refine T.ze rfl ?_|refine T.cond rfl (fun hc=>?_) (fun hc=>?_)|refine T.ret ?_|simp only [za,z8,reduceIte,Nat.reduceEqDiff]|((repeat ((fail_if_success (refine hK _ ?_));clear hK K));refine hK _ ?_;clear hK K))
  refine T.comm [none,some (0,3),some (0,1),none,some (0,3),some (0,3),some (0,3),some (0,3),some (0,3),some (0,2),none,some (3,3),none] (by kernel_rfl) (by kernel_rfl) fun K' hK'=>?_;simp only [List.map_cons,List.map_nil,List.zip_cons_cons,List.zip_nil_left];(repeat' (first|(with_reducible refine WC.fin ?_;refine hK' _ ?_;clear hK' K')|((first|(with_reducible refine WC.z0P fun K2 hK2=>?_)|(with_reducible refine WC.stepW fun K2 hK2=>?_));simp only [simprocAttr,implies_true,amz,WCg,WCv,WOw,allP,dav,Chk,List.filter_cons,List.filter_nil,bne_self_eq_false,Nat.reduceBneDiff,Bool.false_eq_true,tys,lkA,lkC,rsA,rsC,hmx,hmy,hmw,hmz,ml_1];(repeat' (first|(with_reducible refine hK2 _ _ ?_;clear hK2 K2)|with_reducible (first|(refine hK2 _ ?_;clear hK2 K2)|refine And.intro ?_ ?_|intro hb)|(with_reducible rfl)|((with_reducible show @Eq ASt _ _);rfl) )))));all_goals ((try simp only [za,z8,reduceIte,Nat.reduceEqDiff]);(try ((repeat ((fail_if_success (refine hK _ ?_));clear hK K));refine hK _ ?_;clear hK K)))
  refine T.weak (zk.frz _ 6) ?_;simp only [ASt.frz,List.filter_cons,List.filter_nil,bne_self_eq_false,Nat.reduceBneDiff,Bool.false_eq_true,simprocAttr,implies_true,amz,tys]
  repeat' (first|refine T.zh fun K hK=>?_|refine T.block ?_|(refine T.reg (by kernel_rfl) fun K' hK'=>?_;simp only [bz];(repeat' (first|(with_reducible refine WL.fin ?_;refine hK' _ ?_;clear hK' K')|((with_reducible refine WL.step fun K2 hK2=>?_);simp only [simprocAttr,implies_true,amz,tys,lkA,lkC,rsA,rsC];(repeat' with_reducible (first|(refine hK2 _ ?_;clear hK2 K2)|refine And.intro ?_ ?_|intro hb))))))|refine T.skip ?_|refine T.exit ?_|refine T.zf rfl ?_|refine T.ze rfl ?_|refine T.cond rfl (fun hc=>?_) (fun hc=>?_)|refine T.ret ?_|simp only [za,z8,reduceIte,Nat.reduceEqDiff]|((repeat ((fail_if_success (refine hK _ ?_));clear hK K));refine hK _ ?_;clear hK K))
  all_goals (refine zy.ret (.inr rfl) Try.results50 ?_;simp only [zu,zo,zn,simprocAttr,implies_true,amz,tys,];simp [z1f,loC, *])
 have h12' : (e.kind==12)=false:=by simpa using h12
 repeat' (first|refine T.zh fun K hK=>?_|refine T.block ?_|(refine T.reg (by kernel_rfl) fun K' hK'=>?_;simp only [bz];(repeat' (first|(with_reducible refine WL.fin ?_;refine hK' _ ?_;clear hK' K')|((with_reducible refine WL.step fun K2 hK2=>?_);simp only [simprocAttr,implies_true,amz,tys,lkA,lkC,rsA,rsC,h12'];(repeat' (first|with_reducible (first|(refine hK2 _ ?_;clear hK2 K2)|refine And.intro ?_ ?_|intro hb)|((first|(with_reducible apply zg)|(with_reducible apply zl));case h=>exact CallV.plain (Ent.of Try.func61 (by kernel_rfl) rfl) (lock_ok s e.obj e.off hl) (by simp [AV.okB]))|((first|(with_reducible apply zg)|(with_reducible apply zl));case h=>exact CallV.plain (Ent.of Try.func62 (by kernel_rfl) rfl) (z7R s (z6m (z0r e.obj e.off s.locks) false) hl) (by simp [AV.okB]))|((first|(with_reducible apply zg)|(with_reducible apply zl));case h=>exact CallV.plain (Ent.of Try.func62 (by kernel_rfl) rfl) (z7R s (z6f (z0r e.obj e.off s.locks) ((z0r e.obj e.off s.locks).readers+1)) hl) (by simp [AV.okB]))))))))|refine T.skip ?_|refine T.exit ?_|refine T.zf rfl ?_|refine T.ze rfl ?_|refine T.cond rfl (fun hc=>?_) (fun hc=>?_)|refine T.ret ?_|simp only [za,z8,reduceIte,Nat.reduceEqDiff]|((repeat ((fail_if_success (refine hK _ ?_));clear hK K));refine hK _ ?_;clear hK K))
 ·refine T.comm [some (0,0),some (0,0),some (0,0),some (0,1),some (0,0),some (0,1),some (0,1),some (0,1),some (0,1),none,some (1,1)] (by kernel_rfl) (by kernel_rfl) fun K' hK'=>?_;simp only [List.map_cons,List.map_nil,List.zip_cons_cons,List.zip_nil_left];(repeat' (first|(with_reducible refine WC.fin ?_;refine hK' _ ?_;clear hK' K')|((first|(with_reducible refine WC.z0P fun K2 hK2=>?_)|(with_reducible refine WC.stepW fun K2 hK2=>?_));simp only [simprocAttr,implies_true,amz,WCg,WCv,WOw,allP,dav,Chk,List.filter_cons,List.filter_nil,bne_self_eq_false,Nat.reduceBneDiff,Bool.false_eq_true,tys,lkA,lkC,rsA,rsC];(repeat' (first|(with_reducible refine hK2 _ _ ?_;clear hK2 K2)|with_reducible (first|(refine hK2 _ ?_;clear hK2 K2)|refine And.intro ?_ ?_|intro hb)|(with_reducible rfl)|((with_reducible show @Eq ASt _ _);rfl)|((first|(with_reducible apply zg)|(with_reducible apply zl));case h=>exact CallV.plain (Ent.of Try.func62 (by kernel_rfl) rfl) (z7R s (z6m (z0r e.obj e.off s.locks) true) hl) (by simp [AV.okB])))))));all_goals ((try simp only [za,z8,reduceIte,Nat.reduceEqDiff]);(try ((repeat ((fail_if_success (refine hK _ ?_));clear hK K));refine hK _ ?_;clear hK K)))
  all_goals repeat' (first|refine T.zh fun K hK=>?_|refine T.block ?_|(refine T.reg (by kernel_rfl) fun K' hK'=>?_;simp only [bz];(repeat' (first|(with_reducible refine WL.fin ?_;refine hK' _ ?_;clear hK' K')|((with_reducible refine WL.step fun K2 hK2=>?_);simp only [simprocAttr,implies_true,amz,tys,lkA,lkC,rsA,rsC];(repeat' with_reducible (first|(refine hK2 _ ?_;clear hK2 K2)|refine And.intro ?_ ?_|intro hb))))))|refine T.skip ?_|refine T.exit ?_|refine T.zf rfl ?_|refine T.ze rfl ?_|refine T.cond rfl (fun hc=>?_) (fun hc=>?_)|refine T.ret ?_|simp only [za,z8,reduceIte,Nat.reduceEqDiff]|((repeat ((fail_if_success (refine hK _ ?_));clear hK K));refine hK _ ?_;clear hK K))
  all_goals (refine zy.ret (.inr rfl) Try.results50 ?_;simp only [zu,zo,zn,simprocAttr,implies_true,amz,tys,];simp [z1f,z6f,z6m, *])
 ·refine zy.ret (.inr rfl) Try.results50 ?_;simp only [zu,zo,zn,simprocAttr,implies_true,amz,tys,];simp [z1f,z6f,z6m, *]
 ·refine zy.ret (.inr rfl) Try.results50 ?_;simp only [zu,zo,zn,simprocAttr,implies_true,amz,tys,];simp [z1f,z6f,z6m, *]
 ·refine T.comm [some (0,0),some (0,0),some (0,0),some (0,1),some (0,1),some (0,1),none,some (1,1)] (by kernel_rfl) (by kernel_rfl) fun K' hK'=>?_;simp only [List.map_cons,List.map_nil,List.zip_cons_cons,List.zip_nil_left];(repeat' (first|(with_reducible refine WC.fin ?_;refine hK' _ ?_;clear hK' K')|((first|(with_reducible refine WC.z0P fun K2 hK2=>?_)|(with_reducible refine WC.stepW fun K2 hK2=>?_));simp only [simprocAttr,implies_true,amz,WCg,WCv,WOw,allP,dav,Chk,List.filter_cons,List.filter_nil,bne_self_eq_false,Nat.reduceBneDiff,Bool.false_eq_true,tys,lkA,lkC,rsA,rsC];(repeat' (first|(with_reducible refine hK2 _ _ ?_;clear hK2 K2)|with_reducible (first|(refine hK2 _ ?_;clear hK2 K2)|refine And.intro ?_ ?_|intro hb)|(with_reducible rfl)|((with_reducible show @Eq ASt _ _);rfl)|((first|(with_reducible apply zg)|(with_reducible apply zl));case h=>exact CallV.plain (Ent.of Try.func62 (by kernel_rfl) rfl) (z7R s (z6f (z0r e.obj e.off s.locks) ((z0r e.obj e.off s.locks).readers-1)) hl) (by simp [AV.okB])))))));all_goals ((try simp only [za,z8,reduceIte,Nat.reduceEqDiff]);(try ((repeat ((fail_if_success (refine hK _ ?_));clear hK K));refine hK _ ?_;clear hK K)))
  all_goals repeat' (first|refine T.zh fun K hK=>?_|refine T.block ?_|(refine T.reg (by kernel_rfl) fun K' hK'=>?_;simp only [bz];(repeat' (first|(with_reducible refine WL.fin ?_;refine hK' _ ?_;clear hK' K')|((with_reducible refine WL.step fun K2 hK2=>?_);simp only [simprocAttr,implies_true,amz,tys,lkA,lkC,rsA,rsC];(repeat' with_reducible (first|(refine hK2 _ ?_;clear hK2 K2)|refine And.intro ?_ ?_|intro hb))))))|refine T.skip ?_|refine T.exit ?_|refine T.zf rfl ?_|refine T.ze rfl ?_|refine T.cond rfl (fun hc=>?_) (fun hc=>?_)|refine T.ret ?_|simp only [za,z8,reduceIte,Nat.reduceEqDiff]|((repeat ((fail_if_success (refine hK _ ?_));clear hK K));refine hK _ ?_;clear hK K))
  all_goals (refine zy.ret (.inr rfl) Try.results50 ?_;simp only [zu,zo,zn,simprocAttr,implies_true,amz,tys,];simp [z1f,z6f,z6m, *])
 ·refine T.drw 7 (by kernel_rfl) (by kernel_rfl) fun K' hK'=>?_;simp only [List.map_cons,List.map_nil];(repeat' (first|(with_reducible refine WL.fin ?_;refine hK' _ ?_;clear hK' K')|(with_reducible refine WD.fin ?_)|((with_reducible first|refine WL.step fun K2 hK2=>?_|refine WD.step fun K2 hK2=>?_);simp only [simprocAttr,implies_true,amz,tys,lkA,lkC,rsA,rsC];(repeat' (first|with_reducible (first|(refine hK2 _ ?_;clear hK2 K2)|refine And.intro ?_ ?_|intro hb)|((first|(with_reducible apply zg)|(with_reducible apply zl));case h=>exact CallV.plain (Ent.of Try.func63 (by kernel_rfl) rfl) (done_ok s e.obj e.off hdn) (by simp [AV.okB])))))));all_goals ((try simp only [za,z8,reduceIte,Nat.reduceEqDiff]);(try ((repeat ((fail_if_success (refine hK _ ?_));clear hK K));refine hK _ ?_;clear hK K)))
  all_goals repeat' (first|refine T.zh fun K hK=>?_|refine T.block ?_|(refine T.reg (by kernel_rfl) fun K' hK'=>?_;simp only [bz];(repeat' (first|(with_reducible refine WL.fin ?_;refine hK' _ ?_;clear hK' K')|((with_reducible refine WL.step fun K2 hK2=>?_);simp only [simprocAttr,implies_true,amz,tys,lkA,lkC,rsA,rsC];(repeat' with_reducible (first|(refine hK2 _ ?_;clear hK2 K2)|refine And.intro ?_ ?_|intro hb))))))|refine T.skip ?_|refine T.exit ?_|refine T.zf rfl ?_|refine T.ze rfl ?_|refine T.cond rfl (fun hc=>?_) (fun hc=>?_)|refine T.ret ?_|simp only [za,z8,reduceIte,Nat.reduceEqDiff]|((repeat ((fail_if_success (refine hK _ ?_));clear hK K));refine hK _ ?_;clear hK K))
  all_goals (refine zy.ret (.inr rfl) Try.results50 ?_;simp only [zu,zo,zn,simprocAttr,implies_true,amz,tys,];simp [z1f,z6f,z6m, *])
 ·refine T.comm [some (0,0),some (0,1),some (0,1),some (0,1),some (0,1),none,some (1,1)] (by kernel_rfl) (by kernel_rfl) fun K' hK'=>?_;simp only [List.map_cons,List.map_nil,List.zip_cons_cons,List.zip_nil_left];(repeat' (first|(with_reducible refine WC.fin ?_;refine hK' _ ?_;clear hK' K')|((first|(with_reducible refine WC.z0P fun K2 hK2=>?_)|(with_reducible refine WC.stepW fun K2 hK2=>?_));simp only [simprocAttr,implies_true,amz,WCg,WCv,WOw,allP,dav,Chk,List.filter_cons,List.filter_nil,bne_self_eq_false,Nat.reduceBneDiff,Bool.false_eq_true,tys,lkA,lkC,rsA,rsC];(repeat' (first|(with_reducible refine hK2 _ _ ?_;clear hK2 K2)|with_reducible (first|(refine hK2 _ ?_;clear hK2 K2)|refine And.intro ?_ ?_|intro hb)|(with_reducible rfl)|((with_reducible show @Eq ASt _ _);rfl) )))));all_goals ((try simp only [za,z8,reduceIte,Nat.reduceEqDiff]);(try ((repeat ((fail_if_success (refine hK _ ?_));clear hK K));refine hK _ ?_;clear hK K)))
  all_goals repeat' (first|refine T.zh fun K hK=>?_|refine T.block ?_|(refine T.reg (by kernel_rfl) fun K' hK'=>?_;simp only [bz];(repeat' (first|(with_reducible refine WL.fin ?_;refine hK' _ ?_;clear hK' K')|((with_reducible refine WL.step fun K2 hK2=>?_);simp only [simprocAttr,implies_true,amz,tys,lkA,lkC,rsA,rsC];(repeat' with_reducible (first|(refine hK2 _ ?_;clear hK2 K2)|refine And.intro ?_ ?_|intro hb))))))|refine T.skip ?_|refine T.exit ?_|refine T.zf rfl ?_|refine T.ze rfl ?_|refine T.cond rfl (fun hc=>?_) (fun hc=>?_)|refine T.ret ?_|simp only [za,z8,reduceIte,Nat.reduceEqDiff]|((repeat ((fail_if_success (refine hK _ ?_));clear hK K));refine hK _ ?_;clear hK K))
  all_goals (refine zy.ret (.inr rfl) Try.results50 ?_;simp only [zu,zo,zn,simprocAttr,implies_true,amz,tys,];simp [z1f,z6f,z6m, *])
 ·refine zy.ret (.inr rfl) Try.results50 ?_;simp only [zu,zo,zn,simprocAttr,implies_true,amz,tys,];simp [z1f,z6f,z6m, *]
theorem AVle.agg {xs ys:List AV} (hl:xs.length=ys.length) (h : ∀ (j:Nat) x y,xs[j]? = some x→ys[j]? = some y→AVle x y):AVle (.agg xs) (.agg ys):=fun N D loc w v hv=>by
 cases hv with
 | agg _ vs h1 h2 h3 =>
  refine .agg ys vs (h1.trans hl) (fun j y hy=>?_) h3
  have hlt:j<xs.length:=by rw [hl];exact (List.getElem?_eq_some_iff.1 hy).1
  exact h j _ y (List.getElem?_eq_getElem hlt) hy N D loc w _ (h2 j _ (List.getElem?_eq_getElem hlt))
theorem zq.le {P:Program} {f:FuncId} {xs:List AV} {r r' : AV} (h:zq P f xs r) (hle:AVle r r'):zq P f xs r':=fun L w vs hL hvs=>(h L w vs hL hvs).mono fun _ _ ⟨v,h1,h2,h3⟩=>⟨v,h1,h2,hle _ _ _ _ _ h3⟩
theorem new_ok:zq Try.prog 33 [] (rsA rs0):=by
 refine zq.le (r := .agg [.int 0,.int 1,.p (.val (.slice none 0 0)),.p (.val (.slice none 0 0)),.p (.val (.slice none 0 0)),.p (.val (.slice none 0 0)),.int 0,.int 0,.int 0]) ?_ ?_
 ·refine zq.of Try.func33 rfl 2 rfl (by decide) (by simp [AV.okB]) ?_
  repeat' (first|refine T.zh fun K hK=>?_|refine T.block ?_|(refine T.reg (by kernel_rfl) fun K' hK'=>?_;simp only [bz];(repeat' (first|(with_reducible refine WL.fin ?_;refine hK' _ ?_;clear hK' K')|((with_reducible refine WL.step fun K2 hK2=>?_);simp only [simprocAttr,implies_true,amz,tys];(repeat' with_reducible (first|(refine hK2 _ ?_;clear hK2 K2)|refine And.intro ?_ ?_|intro hb))))))|refine T.skip ?_|refine T.exit ?_|refine T.zf rfl ?_|refine T.ze rfl ?_|refine T.cond rfl (fun hc=>?_) (fun hc=>?_)|refine T.ret ?_|simp only [za,z8,reduceIte,Nat.reduceEqDiff]|((repeat ((fail_if_success (refine hK _ ?_));clear hK K));refine hK _ ?_;clear hK K))
  all_goals (refine zy.ret (.inr rfl) Try.results33 ?_;simp only [zu,zo,zn,simprocAttr,implies_true,amz,tys,])
 ·refine AVle.agg rfl fun j x y hx hy=>?_
  rcases j with _|_|_|_|_|_|_|_|_|j <;> simp [rsC,rs0] at hx hy <;> subst hx <;> subst hy <;> first|exact AVle.refl _|exact AVle.nil _
def z4q (s:Rs) (e:Ev):Rs × Bool:=match s.next with
 | w :: r=>z1e s e w r
 | []=>if qD e.kind=true then z3k s e else z1f s e
def cnt1 (s:Rs):Rs := { s with count:=IntKind.i64.wrap (s.count+1) }
def z7A (s:Rs) (e:Ev):Bool := !z04 e||decide (5000≤s.count)||decide (s.gor≤e.g)
def addB (s:Rs) (e:Ev):Rs × Bool:=if z7A s e=true then (s,false) else if (z4q s e).2=true then (cnt1 (z4q s e).1,true) else (s,false)
structure Sm (s:Rs):Prop where
 c:s.chans.length≤1000000
 l:s.locks.length≤1000000
 d:s.done.length≤1000000
 n:s.next.length≤1000
theorem add_ok (s:Rs) (e:Ev) (hs:Sm s):zq Try.prog 34 [rsA s,evA e] (.tup [rsA (addB s e).1,.bool (addB s e).2]):=by
 by_cases hno:z7A s e=true
 ·have hres:addB s e=(s,false):=by simp [addB,hno]
  rw [hres]
  simp only [rsA,rsC,List.map_cons,List.map_nil,evA,evC]
  refine zq.of Try.func34 rfl 59 rfl (by decide) (by simp [AV.okB]) ?_
  repeat' (first|refine T.zh fun K hK=>?_|refine T.block ?_|(refine T.reg (by kernel_rfl) fun K' hK'=>?_;simp only [bz];(repeat' (first|(with_reducible refine WL.fin ?_;refine hK' _ ?_;clear hK' K')|((with_reducible refine WL.step fun K2 hK2=>?_);simp only [simprocAttr,implies_true,amz,tys];(repeat' (first|with_reducible (first|(refine hK2 _ ?_;clear hK2 K2)|refine And.intro ?_ ?_|intro hb)|((first|(with_reducible apply zg)|(with_reducible apply zl));case h=>exact CallV.plain (Ent.of Try.func46 (by kernel_rfl) rfl) (z6q e) (by simp [AV.okB]))))))))|refine T.skip ?_|refine T.exit ?_|refine T.zf rfl ?_|refine T.ze rfl ?_|refine T.cond rfl (fun hc=>?_) (fun hc=>?_)|refine T.ret ?_|simp only [za,z8,reduceIte,Nat.reduceEqDiff]|((repeat ((fail_if_success (refine hK _ ?_));clear hK K));refine hK _ ?_;clear hK K))
  all_goals first
   | ((refine zy.ret (.inr rfl) Try.results34 ?_;simp only [zu,zo,zn,simprocAttr,implies_true,amz,tys,]);done)
   | (exfalso;simp_all [z7A];done)
 ·have hno' : z7A s e=false:=by simpa using hno
  have hn2:=hno'
  simp only [z7A,Bool.or_eq_false_iff] at hn2
  obtain ⟨⟨a1,a2⟩,a3⟩:=hn2
  cases hnx:s.next with
  | cons w r =>
   have hst:z4q s e=z1e s e w r:=by simp [z4q,hnx]
   have hrl:r.length≤1000:=by have:=hs.n;rw [hnx] at this;simp at this;omega
   have hd:decide ((0:Int)<((r.length+1:Nat):Int))=true:=by simp
   have hg:=group_ok s e w r hnx hs.c hrl
   simp only [rsA,rsC,List.map_cons,List.map_nil,evA,evC,hnx] at hg
   simp only [rsA,rsC,List.map_cons,List.map_nil,evA,evC]
   refine zq.of Try.func34 rfl 59 rfl (by decide) (by simp [AV.okB]) ?_
   repeat' (first|refine T.zh fun K hK=>?_|refine T.block ?_|(refine T.reg (by kernel_rfl) fun K' hK'=>?_;simp only [bz];(repeat' (first|(with_reducible refine WL.fin ?_;refine hK' _ ?_;clear hK' K')|((with_reducible refine WL.step fun K2 hK2=>?_);simp only [simprocAttr,implies_true,amz,tys,a1,a2,a3,hd,hnx,List.length_cons,List.map_cons,rsA,rsC];(repeat' (first|with_reducible (first|(refine hK2 _ ?_;clear hK2 K2)|refine And.intro ?_ ?_|intro hb)|((first|(with_reducible apply zg)|(with_reducible apply zl));case h=>exact CallV.plain (Ent.of Try.func46 (by kernel_rfl) rfl) (z6q e) (by simp [AV.okB]))|((first|(with_reducible apply zg)|(with_reducible apply zl));case h=>exact CallV.plain (Ent.of Try.func47 (by kernel_rfl) rfl) (hg) (by simp [AV.okB]))))))))|refine T.skip ?_|refine T.exit ?_|refine T.zf rfl ?_|refine T.ze rfl ?_|refine T.cond rfl (fun hc=>?_) (fun hc=>?_)|refine T.ret ?_|simp only [za,z8,reduceIte,Nat.reduceEqDiff]|((repeat ((fail_if_success (refine hK _ ?_));clear hK K));refine hK _ ?_;clear hK K))
   all_goals (refine zy.ret (.inr rfl) Try.results34 ?_;simp only [zu,zo,zn,simprocAttr,implies_true,amz,tys,];first|(simp [addB,hno',hst,cnt1, *];done)|(simp at hc;simp [addB,hno',hst,cnt1,hc, *];done))
  | nil =>
   have hst:z4q s e=if qD e.kind=true then z3k s e else z1f s e:=by simp [z4q,hnx]
   have hd:decide ((0:Int)<((0:Nat):Int))=false:=by simp
   have ht:=trans_ok s e hs.c
   have ho:=other_ok s e hs.l hs.d
   simp only [rsA,rsC,List.map_cons,List.map_nil,evA,evC,hnx] at ht ho
   simp only [rsA,rsC,List.map_cons,List.map_nil,evA,evC]
   refine zq.of Try.func34 rfl 59 rfl (by decide) (by simp [AV.okB]) ?_
   repeat' (first|refine T.zh fun K hK=>?_|refine T.block ?_|(refine T.reg (by kernel_rfl) fun K' hK'=>?_;simp only [bz];(repeat' (first|(with_reducible refine WL.fin ?_;refine hK' _ ?_;clear hK' K')|((with_reducible refine WL.step fun K2 hK2=>?_);simp only [simprocAttr,implies_true,amz,tys,a1,a2,a3,hd,hnx,rsA,rsC,List.length_nil,List.map_nil];(repeat' (first|with_reducible (first|(refine hK2 _ ?_;clear hK2 K2)|refine And.intro ?_ ?_|intro hb)|((first|(with_reducible apply zg)|(with_reducible apply zl));case h=>exact CallV.plain (Ent.of Try.func46 (by kernel_rfl) rfl) (z6q e) (by simp [AV.okB]))|((first|(with_reducible apply zg)|(with_reducible apply zl));case h=>exact CallV.plain (Ent.of Try.func48 (by kernel_rfl) rfl) (z92 e.kind) (by simp [AV.okB]))|((first|(with_reducible apply zg)|(with_reducible apply zl));case h=>exact CallV.plain (Ent.of Try.func49 (by kernel_rfl) rfl) (ht) (by simp [AV.okB]))|((first|(with_reducible apply zg)|(with_reducible apply zl));case h=>exact CallV.plain (Ent.of Try.func50 (by kernel_rfl) rfl) (ho) (by simp [AV.okB]))))))))|refine T.skip ?_|refine T.exit ?_|refine T.zf rfl ?_|refine T.ze rfl ?_|refine T.cond rfl (fun hc=>?_) (fun hc=>?_)|refine T.ret ?_|simp only [za,z8,reduceIte,Nat.reduceEqDiff]|((repeat ((fail_if_success (refine hK _ ?_));clear hK K));refine hK _ ?_;clear hK K))
   all_goals (refine zy.ret (.inr rfl) Try.results34 ?_;simp only [zu,zo,zn,simprocAttr,implies_true,amz,tys,];first|(simp [addB,hno',hst,cnt1, *];done)|(simp at hc;simp [addB,hno',hst,cnt1,hc, *];done))
structure Sn (s:Rs) (k:Nat):Prop where
 c:s.chans.length≤k
 l:s.locks.length≤k
 d:s.done.length≤k
 n:s.next.length≤3
theorem setC_len (s:Rs) (c:Cn):(setC s c).chans.length≤s.chans.length+1:=by
 simp only [setC,List.length_append,List.length_cons,List.length_nil]
 have:=List.length_filter_le (fun x:Cn=>x.obj != c.obj) s.chans
 omega
theorem setL_len (s:Rs) (c:Lk):(setL s c).locks.length≤s.locks.length+1:=by
 simp only [setL,List.length_append,List.length_cons,List.length_nil]
 have:=List.length_filter_le (z3P c) s.locks
 omega
theorem Sn.up {s:Rs} {k:Nat} (h:Sn s k):Sn s (k+1):=⟨by have:=h.c;omega,by have:=h.l;omega,by have:=h.d;omega,h.n⟩
theorem Sn.setC {s:Rs} {k:Nat} (h:Sn s k) (c:Cn):Sn (setC s c) (k+1):=⟨by have:=setC_len s c;have:=h.c;omega,by have:=h.l;simp only [Go.Proofs.Ytdlgoofjechocaa.setC];omega,by have:=h.d;simp only [Go.Proofs.Ytdlgoofjechocaa.setC];omega,h.n⟩
theorem Sn.setL {s:Rs} {k:Nat} (h:Sn s k) (c:Lk):Sn (setL s c) (k+1):=⟨by have:=h.c;simp only [Go.Proofs.Ytdlgoofjechocaa.setL];omega,by have:=setL_len s c;have:=h.l;omega,by have:=h.d;simp only [Go.Proofs.Ytdlgoofjechocaa.setL];omega,h.n⟩
theorem Sn.counted {s:Rs} {k:Nat} (h:Sn s k) (e:Ev):Sn (z0x s e) (k+1):=by
 unfold z0x
 split
 ·exact h.setC _
 ·split
  ·exact h.setC _
  ·exact h.up
theorem Sn.begin {s:Rs} {k:Nat} (h:Sn s k) (e:Ev) (nx:List Wt) (hn:nx.length≤3):Sn (z3x s e nx) (k+1):=by
 unfold z3x
 exact Sn.counted (s:=openB s e nx) ⟨h.c,h.l,h.d,hn⟩ e
theorem Sn.group {s:Rs} {k:Nat} (h:Sn s k) (e:Ev) (w:Wt) (r:List Wt) (hnx:s.next=w :: r):Sn (z1e s e w r).1 (k+1):=by
 unfold z1e
 split
 ·exact h.up
 ·refine Sn.counted (s:=z3T s (r.map (fixW e w))) ⟨h.c,h.l,h.d,?_⟩ e
  have:=h.n
  rw [hnx] at this
  simp [z3T] at this ⊢
  omega
theorem Sn.trans {s:Rs} {k:Nat} (h:Sn s k) (e:Ev):Sn (z3k s e).1 (k+1):=by
 unfold z3k
 repeat' (first|exact h.up|exact h.setC _|exact h.begin e _ (by simp)|split)
theorem Sn.other {s:Rs} {k:Nat} (h:Sn s k) (e:Ev):Sn (z1f s e).1 (k+1):=by
 unfold z1f
 repeat' (first|exact h.up|exact h.setL _|exact ⟨by have:=h.c;simp only [];omega,by have:=h.l;simp only [];omega,by have:=h.d;simp;omega,h.n⟩|split)
theorem Sn.add {s:Rs} {k:Nat} (h:Sn s k) (e:Ev):Sn (addB s e).1 (k+1):=by
 have hst:Sn (z4q s e).1 (k+1):=by
  unfold z4q
  split
  ·rename_i w r hnx;exact h.group e w r hnx
  ·split
   ·exact h.trans e
   ·exact h.other e
 unfold addB
 split
 ·exact h.up
 ·split
  ·exact ⟨hst.c,hst.l,hst.d,hst.n⟩
  ·exact h.up
theorem Sn.sm {s:Rs} {k:Nat} (h:Sn s k) (hk:k≤1000000):Sm s:=⟨by have:=h.c;omega,by have:=h.l;omega,by have:=h.d;omega,by have:=h.n;omega⟩
def goB (s:Rs) (k:Int):List Ev→Int × Bool
 | []=>(k,true)
 | e :: r=>if (addB s e).2=true then goB (addB s e).1 (k+1) r else (k,false)
def qx (l:List Ev):Int × Bool:=goB rs0 0 l
theorem check_ok (l:List Ev) (hl:l.length≤1000000):zq Try.prog 26 [.p (.seq 9 (l.map evC))] (.tup [.int (qx l).1,.bool (qx l).2]):=by
 refine zq.of Try.func26 rfl 30 rfl (by decide) (by simp [AV.okB]) ?_
 repeat' (first|refine T.zh fun K hK=>?_|refine T.block ?_|(refine T.reg (by kernel_rfl) fun K' hK'=>?_;simp only [bz];(repeat' (first|(with_reducible refine WL.fin ?_;refine hK' _ ?_;clear hK' K')|((with_reducible refine WL.step fun K2 hK2=>?_);simp only [simprocAttr,implies_true,amz,tys,rsA,rsC];(repeat' (first|with_reducible (first|(refine hK2 _ ?_;clear hK2 K2)|refine And.intro ?_ ?_|intro hb)|((first|(with_reducible apply zg)|(with_reducible apply zl));case h=>exact CallV.plain (Ent.of Try.func33 (by kernel_rfl) rfl) (new_ok) (by simp [AV.okB]))))))))|refine T.skip ?_|refine T.exit ?_|refine T.zf rfl ?_|refine T.ze rfl ?_|refine T.cond rfl (fun hc=>?_) (fun hc=>?_)|refine T.ret ?_|simp only [za,z8,reduceIte,Nat.reduceEqDiff]|((repeat ((fail_if_success (refine hK _ ?_));clear hK K));refine hK _ ?_;clear hK K))
 refine T.qc (fun p:Nat × Rs=>⟨[(0,.p (.seq 9 (l.map evC))),(2,.int 0),(3,.bool false),(4,.ptr 0 0),(5,.int p.1)],[(0,.box 66 ((rsC p.2).map .p))],30,1⟩) (fun p=>p.1≤l.length∧Sn p.2 p.1∧qx l=goB p.2 p.1 (l.drop p.1)) (fun p=>l.length-p.1) (0,rs0) ⟨Nat.zero_le _,⟨Nat.le_refl _,Nat.le_refl _,Nat.le_refl _,Nat.zero_le _⟩,rfl⟩ (by refine zk.of' rfl ?_;simp only [wks,reduceIte,Nat.reduceEqDiff,ASt.okB,AV.okB,Nat.reduceLT,implies_true,Int.natCast_zero,rsC,List.map_cons,List.map_nil]) ?_
 rintro ⟨k,s⟩ ⟨hk,hsn,hn⟩ KL hKL
 simp only at hk hsn hn hKL ⊢
 simp only [rsC,List.map_cons,List.map_nil]
 by_cases hlt:k<l.length
 ·obtain ⟨x,hx⟩:=zT hlt
  have hd:decide ((k:Int)<(l.length:Int))=true:=by simpa using hlt
  rw [drop_at hx,goB] at hn
  have hcont:(addB s x).2=true → ∀ s',zk s' _→KL s':=fun h s' hw=>hKL s' (k+1,(addB s x).1) hw ⟨by simp only [];omega,hsn.add x,by rw [hn,if_pos h];rfl⟩ (by simp only [];omega)
  repeat' (first|refine T.zh fun K hK=>?_|refine T.block ?_|(refine T.reg (by kernel_rfl) fun K' hK'=>?_;simp only [bz];(repeat' (first|(with_reducible refine WL.fin ?_;refine hK' _ ?_;clear hK' K')|((with_reducible refine WL.step fun K2 hK2=>?_);simp only [simprocAttr,implies_true,amz,tys,hx,hd,evC];(repeat' with_reducible (first|(refine hK2 _ ?_;clear hK2 K2)|refine And.intro ?_ ?_|intro hb))))))|refine T.skip ?_|refine T.exit ?_|refine T.zf rfl ?_|refine T.ze rfl ?_|refine T.cond rfl (fun hc=>?_) (fun hc=>?_)|refine T.ret ?_|simp only [za,z8,reduceIte,Nat.reduceEqDiff]|((repeat ((fail_if_success (refine hK _ ?_));clear hK K));refine hK _ ?_;clear hK K))
  refine T.comm [some (0,1),some (0,1),some (0,1),some (0,1),some (0,1),some (0,1),some (0,1),some (0,1),some (0,2),none,none,some (2,2)] (by kernel_rfl) (by kernel_rfl) fun K' hK'=>?_;simp only [List.map_cons,List.map_nil,List.zip_cons_cons,List.zip_nil_left];(repeat' (first|(with_reducible refine WC.fin ?_;refine hK' _ ?_;clear hK' K')|((first|(with_reducible refine WC.z0P fun K2 hK2=>?_)|(with_reducible refine WC.stepW fun K2 hK2=>?_));simp only [simprocAttr,implies_true,amz,WCg,WCv,WOw,allP,dav,Chk,List.filter_cons,List.filter_nil,bne_self_eq_false,Nat.reduceBneDiff,Bool.false_eq_true,tys,hx,evC,rsA,rsC];(repeat' (first|(with_reducible refine hK2 _ _ ?_;clear hK2 K2)|with_reducible (first|(refine hK2 _ ?_;clear hK2 K2)|refine And.intro ?_ ?_|intro hb)|(with_reducible rfl)|((with_reducible show @Eq ASt _ _);rfl)|((first|(with_reducible apply zg)|(with_reducible apply zl));case h=>exact CallV.plain (Ent.of Try.func34 (by kernel_rfl) rfl) (add_ok s x (hsn.sm (by omega))) (by simp [AV.okB])))))));all_goals ((try simp only [za,z8,reduceIte,Nat.reduceEqDiff]);(try ((repeat ((fail_if_success (refine hK _ ?_));clear hK K));refine hK _ ?_;clear hK K)))
  all_goals repeat' (first|refine T.zh fun K hK=>?_|refine T.block ?_|(refine T.reg (by kernel_rfl) fun K' hK'=>?_;simp only [bz];(repeat' (first|(with_reducible refine WL.fin ?_;refine hK' _ ?_;clear hK' K')|((with_reducible refine WL.step fun K2 hK2=>?_);simp only [simprocAttr,implies_true,amz,tys];(repeat' with_reducible (first|(refine hK2 _ ?_;clear hK2 K2)|refine And.intro ?_ ?_|intro hb))))))|refine T.skip ?_|refine T.exit ?_|refine T.zf rfl ?_|refine T.ze rfl ?_|refine T.cond rfl (fun hc=>?_) (fun hc=>?_)|refine T.ret ?_|simp only [za,z8,reduceIte,Nat.reduceEqDiff]|((repeat ((fail_if_success (refine hK _ ?_));clear hK K));refine hK _ ?_;clear hK K))
  ·have hf:(addB s x).2=false:=by simpa using hc
   refine zy.ret (.inr rfl) Try.results26 ?_;simp only [zu,zo,zn,simprocAttr,implies_true,amz,tys,]
   rw [hn]
   simp [hf]
  ·refine hcont (by simpa using hc) _ ?_
   refine zk.of' rfl ?_;simp only [wks,reduceIte,Nat.reduceEqDiff,ASt.okB,AV.okB,Nat.reduceLT,implies_true,zm (show k<1152921504606846976 by omega),rsC,List.map_cons,List.map_nil]
 ·have hd:decide ((k:Int)<(l.length:Int))=false:=by simpa using hlt
  rw [z3L hlt,goB] at hn
  repeat' (first|refine T.zh fun K hK=>?_|refine T.block ?_|(refine T.reg (by kernel_rfl) fun K' hK'=>?_;simp only [bz];(repeat' (first|(with_reducible refine WL.fin ?_;refine hK' _ ?_;clear hK' K')|((with_reducible refine WL.step fun K2 hK2=>?_);simp only [simprocAttr,implies_true,amz,tys,hd];(repeat' with_reducible (first|(refine hK2 _ ?_;clear hK2 K2)|refine And.intro ?_ ?_|intro hb))))))|refine T.skip ?_|refine T.exit ?_|refine T.zf rfl ?_|refine T.ze rfl ?_|refine T.cond rfl (fun hc=>?_) (fun hc=>?_)|refine T.ret ?_|simp only [za,z8,reduceIte,Nat.reduceEqDiff]|((repeat ((fail_if_success (refine hK _ ?_));clear hK K));refine hK _ ?_;clear hK K))
  refine zy.ret (.inr rfl) Try.results26 ?_;simp only [zu,zo,zn,simprocAttr,implies_true,amz,tys,]
  rw [hn]
  have:k=l.length:=by omega
  simp [this]
theorem z1u (l:List Ev) (hl:l.length≤1000000):zq Try.prog 13 [.p (.seq 9 (l.map evC))] (.bool (qx l).2):=by
 refine zq.of Try.func13 rfl 11 rfl (by decide) (by simp [AV.okB]) ?_
 repeat' (first|refine T.zh fun K hK=>?_|refine T.block ?_|(refine T.reg (by kernel_rfl) fun K' hK'=>?_;simp only [bz];(repeat' (first|(with_reducible refine WL.fin ?_;refine hK' _ ?_;clear hK' K')|((with_reducible refine WL.step fun K2 hK2=>?_);simp only [simprocAttr,implies_true,amz,tys];(repeat' (first|with_reducible (first|(refine hK2 _ ?_;clear hK2 K2)|refine And.intro ?_ ?_|intro hb)|((first|(with_reducible apply zg)|(with_reducible apply zl));case h=>exact CallV.plain (Ent.of Try.func26 (by kernel_rfl) rfl) (check_ok l hl) (by simp [AV.okB]))))))))|refine T.skip ?_|refine T.exit ?_|refine T.zf rfl ?_|refine T.ze rfl ?_|refine T.cond rfl (fun hc=>?_) (fun hc=>?_)|refine T.ret ?_|simp only [za,z8,reduceIte,Nat.reduceEqDiff]|((repeat ((fail_if_success (refine hK _ ?_));clear hK K));refine hK _ ?_;clear hK K))
 all_goals (refine zy.ret (.inr rfl) Try.results13 ?_;simp only [zu,zo,zn,simprocAttr,implies_true,amz,tys,])
structure Ch where
 cap:Int
 sent:Int
 recv:Int
 closed:Bool
structure Mu where
 locked:Bool
 readers:Int
structure Gp where
 kinds:List Int
 obj:Int
 k:Int
 n:Int
 snd:Int
 rcv:Int
structure Ps where
 ev:Int
 gor:Int
 ch:Int→Option Ch
 mu:Int→Int→Option Mu
 dn:Int→Int→Bool
 op:Gp
def ch0:Ch:=⟨0,0,0,false⟩
def mu0:Mu:=⟨false,0⟩
def gp0:Gp:=⟨[],0,0,0,0,0⟩
def ps0:Ps:=⟨0,1,fun _=>none,fun _ _=>none,fun _ _=>false,gp0⟩
def z0g (s:Ps) (o:Int) (c:Ch):Ps := { s with ch:=fun x=>if x=o then some c else s.ch x }
def setMu (s:Ps) (o f:Int) (m:Mu):Ps := { s with mu:=fun x y=>if x=o∧y=f then some m else s.mu x y }
def zav (s:Ps) (o f:Int):Ps := { s with dn:=fun x y=>decide (x=o∧y=f)||s.dn x y }
def z0J (s:Ps) (g:Gp):Ps := { s with op:=g }
abbrev wI (x:Int):Int:=IntKind.i64.wrap x
def z07 (c:Ch) (kind:Int):Ch:=if kind==15 then { c with sent:=wI (c.sent+1) } else if kind==17 then { c with recv:=wI (c.recv+1) } else c
def countP (s:Ps) (e:Ev):Ps:=z0g s e.obj (z07 ((s.ch e.obj).getD ch0) e.kind)
def qV (kind:Int):Bool:=kind==15||kind==16
def ownP (s r:Int) (kind:Int):Int:=if qV kind=true then s else r
def othP (s r:Int) (kind:Int):Int:=if qV kind=true then r else s
def badP (own oth g:Int):Bool:=(decide (own<0)&&g==oth)||(decide (0≤own)&&g != own)
def fitP (o:Gp) (kd:Int) (e:Ev):Bool := !(e.kind != kd||e.obj != o.obj||e.k != o.k||e.n != o.n)
def z0N (o:Gp) (e:Ev) (r:List Int):Gp:=if qV e.kind=true then { o with kinds:=r,snd:=e.g } else { o with kinds:=r,rcv:=e.g }
def z2I (s:Ps) (kd:Int) (r:List Int) (e:Ev):Option Ps :=
 if fitP s.op kd e=true∧badP (ownP s.op.snd s.op.rcv e.kind) (othP s.op.snd s.op.rcv e.kind) e.g=false then some (countP (z0J s (z0N s.op e r)) e) else none
def z1X (s:Ps) (e:Ev) (c:Ch) (kinds:List Int) (snd rcv:Int):Ps:=countP (z0J (z0g s e.obj c) ⟨kinds,e.obj,e.k,e.n,snd,rcv⟩) e
def qA (s:Ps) (e:Ev):Ch:=(s.ch e.obj).getD { ch0 with cap:=e.n }
def z0l (s:Ps) (e:Ev):Option Ps :=
 if (qA s e).cap != e.n then none
 else if e.kind==19 then (if (qA s e).closed=true then none else some (z0g s e.obj { qA s e with closed:=true }))
 else if e.kind==20 then (if ((qA s e).closed&&(qA s e).sent==(qA s e).recv)=true then some s else none)
 else if e.kind==15 then
  (if ((qA s e).closed||e.k != (qA s e).sent)=true then none
  else if wI ((qA s e).sent-(qA s e).recv)<(qA s e).cap then some (z1X s e (qA s e) [16] e.g (-1))
  else if ((qA s e).cap==0 && !(s.gor==1))=true then some (z1X s e (qA s e) [17,18,16] e.g (-1))
  else none)
 else if e.kind==17 then
  (if (e.k != (qA s e).recv)=true then none
  else if (qA s e).recv<(qA s e).sent then some (z1X s e (qA s e) [18] (-1) e.g)
  else if (!(qA s e).closed && !(s.gor==1))=true then some (z1X s e (qA s e) [15,18,16] (-1) e.g)
  else none)
 else none
def muP (s:Ps) (e:Ev):Mu:=(s.mu e.obj e.off).getD mu0
def z0m (s:Ps) (e:Ev):Option Ps :=
 if e.kind==6 then (if ((muP s e).locked||decide (0<(muP s e).readers))=true then none else some (setMu s e.obj e.off { muP s e with locked:=true }))
 else if e.kind==7 then (if (muP s e).locked=true then some (setMu s e.obj e.off { muP s e with locked:=false }) else none)
 else if e.kind==8 then (if (muP s e).locked=true then none else some (setMu s e.obj e.off { muP s e with readers:=wI ((muP s e).readers+1) }))
 else if e.kind==9 then (if ((muP s e).readers==0)=true then none else some (setMu s e.obj e.off { muP s e with readers:=wI ((muP s e).readers-1) }))
 else if e.kind==12 then (if s.dn e.obj e.off=true then none else some (zav s e.obj e.off))
 else if e.kind==13 then (if s.dn e.obj e.off=true then some s else none)
 else if e.kind==14 then (if (e.k != s.gor)=true then none else some { s with gor:=wI (s.gor+1) })
 else some s
def z0z (s:Ps) (e:Ev):Option Ps:=match s.op.kinds with
 | kd :: r=>z2I s kd r e
 | []=>if qD e.kind=true then z0l s e else z0m s e
def z4D (s:Ps) (e:Ev):Bool := !z04 e||decide (5000≤s.ev)||decide (s.gor≤e.g)
def addP (s:Ps) (e:Ev):Option Ps:=if z4D s e=true then none else (z0z s e).map fun t => { t with ev:=wI (t.ev+1) }
def goP (s:Ps):List Ev→Bool
 | []=>true
 | e :: r=>match addP s e with
  | some t=>goP t r
  | none=>false
def toCn (o:Int) (c:Ch):Cn:=⟨o,c.cap,c.sent,c.recv,c.closed⟩
def toLk (o f:Int) (m:Mu):Lk:=⟨o,f,m.locked,m.readers⟩
structure Gk (g:Gp) (r:Rs):Prop where
 kinds:g.kinds=r.next.map (·.kind)
 at' : r.next ≠ []→g.obj=r.obj∧g.k=r.k∧g.n=r.n
 own : ∀ w ∈ r.next,w.g=ownP g.snd g.rcv w.kind
 head : ∀ w l,r.next=w :: l→w.g<0→w.not=othP g.snd g.rcv w.kind ∧ 0≤othP g.snd g.rcv w.kind
 rest : ∀ w l,r.next=w :: l → 0≤w.g → ∀ x ∈ l,0≤x.g
 tail : ∀ x ∈ g.kinds.tail,x ≠ 15∧x ≠ 17
structure ChOk (g:Gp) (m:Int) (o:Int) (c:Ch):Prop where
 s0 : 0≤c.sent
 s1:c.sent≤m
 r0 : 0≤c.recv
 r1:c.recv≤m
 le:g.kinds.head? ≠ some 15∨o ≠ g.obj→c.recv≤c.sent
 le1:c.recv≤c.sent+1
 lt:g.kinds.head? = some 17∧o=g.obj→c.recv+1≤c.sent
structure Inv (s:Ps) (r:Rs) (m:Int):Prop where
 ev:s.ev=r.count
 gor:s.gor=r.gor
 ch : ∀ o n,z0e o n r.chans=toCn o ((s.ch o).getD ⟨n,0,0,false⟩)
 mu : ∀ o f,z0r o f r.locks=toLk o f ((s.mu o f).getD mu0)
 dn : ∀ o f,z9h r o f=s.dn o f
 op:Gk s.op r
 gr0 : 1≤s.gor∧s.gor≤m+1
 chb : ∀ o c,s.ch o=some c→ChOk s.op m o c
 mub : ∀ o f u,s.mu o f=some u → 0≤u.readers∧u.readers≤m
 has:s.op.kinds ≠ [] → ∃ c,s.ch s.op.obj=some c
theorem inv0:Inv ps0 rs0 0:=⟨rfl,rfl,fun _ _=>rfl,fun _ _=>rfl,fun _ _=>rfl,⟨rfl,fun h=>absurd rfl h,fun w h=>(by cases h),fun w l h=>(by cases h),fun w l h=>(by cases h),fun x h=>(by cases h)⟩,⟨by decide,by decide⟩,fun _ _ h=>(by cases h),fun _ _ _ h=>(by cases h),fun h=>absurd rfl h⟩
theorem ChOk.up {g:Gp} {m o:Int} {c:Ch} (h:ChOk g m o c):ChOk g (m+1) o c:=⟨h.s0,by have:=h.s1;omega,h.r0,by have:=h.r1;omega,h.le,h.le1,h.lt⟩
theorem Inv.up {s:Ps} {r:Rs} {m:Int} (h:Inv s r m):Inv s r (m+1):=⟨h.ev,h.gor,h.ch,h.mu,h.dn,h.op,⟨h.gr0.1,by have:=h.gr0.2;omega⟩,fun o c hc=>(h.chb o c hc).up,fun o f u hu=>⟨(h.mub o f u hu).1,by have:=(h.mub o f u hu).2;omega⟩,h.has⟩
theorem Inv.cnt {s:Ps} {r:Rs} {m:Int} (h:Inv s r m):Inv { s with ev:=wI (s.ev+1) } (cnt1 r) m:=⟨by simp [cnt1,h.ev],h.gor,h.ch,h.mu,h.dn,⟨h.op.kinds,h.op.at',h.op.own,h.op.head,h.op.rest,h.op.tail⟩,h.gr0,h.chb,h.mub,h.has⟩
theorem z8i (s:Rs) (c:Cn) (o n:Int):z0e o n (setC s c).chans=if c.obj=o then c else z0e o n s.chans:=by
 unfold setC
 simp only
 by_cases e:c.obj=o
 ·rw [if_pos e]
  have : ∀ l:List Cn,z0e o n (l.filter (fun x=>x.obj != c.obj) ++ [c])=c:=by
   intro l
   induction l with
   | nil=>simp [z0e,e]
   | cons x r ih =>
    by_cases hx:x.obj=c.obj
    ·rw [List.filter_cons_of_neg (by simp [hx])];exact ih
    ·rw [List.filter_cons_of_pos (by simp [hx]),List.cons_append,z0e,if_neg (by simp;exact fun h=>hx (h.trans e.symm))];exact ih
  exact this _
 ·rw [if_neg e]
  have : ∀ l:List Cn,z0e o n (l.filter (fun x=>x.obj != c.obj) ++ [c])=z0e o n l:=by
   intro l
   induction l with
   | nil=>simp [z0e,e]
   | cons x r ih =>
    by_cases hx:x.obj=c.obj
    ·rw [List.filter_cons_of_neg (by simp [hx]),ih,z0e,if_neg (by simp;exact fun h=>e (hx.symm.trans h))]
    ·rw [List.filter_cons_of_pos (by simp [hx]),List.cons_append,z0e,z0e,ih]
  exact this _
theorem lockB_set (s:Rs) (c:Lk) (o f:Int):z0r o f (setL s c).locks=if c.obj=o∧c.off=f then c else z0r o f s.locks:=by
 unfold setL
 simp only
 by_cases e:c.obj=o∧c.off=f
 ·rw [if_pos e]
  obtain ⟨e1,e2⟩:=e
  have : ∀ l:List Lk,z0r o f (l.filter (z3P c) ++ [c])=c:=by
   intro l
   induction l with
   | nil=>simp [z0r,e1,e2]
   | cons x r ih =>
    by_cases hx:z3P c x=true
    ·rw [List.filter_cons_of_pos hx,List.cons_append,z0r,if_neg ?_]
     ·exact ih
     ·intro h
      simp only [Bool.and_eq_true,beq_iff_eq] at h
      simp [z3P,h.1,h.2,e1,e2] at hx
    ·rw [List.filter_cons_of_neg hx];exact ih
  exact this _
 ·rw [if_neg e]
  have : ∀ l:List Lk,z0r o f (l.filter (z3P c) ++ [c])=z0r o f l:=by
   intro l
   induction l with
   | nil =>
    have:(c.obj==o&&c.off==f)=false:=by simpa using e
    simp [z0r,this]
   | cons x r ih =>
    by_cases hx:z3P c x=true
    ·rw [List.filter_cons_of_pos hx,List.cons_append,z0r,z0r,ih]
    ·rw [List.filter_cons_of_neg hx,ih,z0r,if_neg ?_]
     intro h
     simp only [Bool.and_eq_true,beq_iff_eq] at h
     simp only [z3P,Bool.or_eq_true,bne_iff_ne,ne_eq,not_or,Decidable.not_not] at hx
     exact e ⟨hx.1.symm.trans h.1,hx.2.symm.trans h.2⟩
  exact this _
theorem z6w {x:Int} (h0 : -10000≤x) (h1:x≤10000):wI x=x:=z4c (by omega) (by omega)
theorem z9Q (s:Ps) (o f:Int) (u:Mu) (o' f' : Int):(setMu s o f u).mu o' f' = if o' = o∧f' = f then some u else s.mu o' f':=rfl
theorem z3F (s:Ps) (o:Int) (c:Ch) (o' : Int):(z0g s o c).ch o' = if o' = o then some c else s.ch o':=rfl
theorem Inv.muTo {s:Ps} {r:Rs} {m:Int} (h:Inv s r m) (o f:Int) (u:Mu) (h0 : 0≤u.readers) (h1:u.readers≤m):Inv (setMu s o f u) (setL r (toLk o f u)) m:=by
 refine ⟨h.ev,h.gor,h.ch,fun o' f'=>?_,h.dn,⟨h.op.kinds,h.op.at',h.op.own,h.op.head,h.op.rest,h.op.tail⟩,h.gr0,h.chb,fun o' f' u' hu=>?_,h.has⟩
 ·rw [lockB_set,z9Q]
  by_cases e:o' = o∧f' = f
  ·rw [if_pos e,if_pos (show (toLk o f u).obj=o' ∧ (toLk o f u).off=f' from ⟨e.1.symm,e.2.symm⟩),e.1,e.2];rfl
  ·rw [if_neg e,if_neg (fun h:(toLk o f u).obj=o' ∧ (toLk o f u).off=f'=>e ⟨h.1.symm,h.2.symm⟩)];exact h.mu o' f'
 ·rw [z9Q] at hu
  split at hu
  ·cases hu;exact ⟨h0,h1⟩
  ·exact h.mub o' f' u' hu
theorem Inv.chTo {s:Ps} {r:Rs} {m:Int} (h:Inv s r m) (o:Int) (c:Ch) (hc:ChOk s.op m o c):Inv (z0g s o c) (setC r (toCn o c)) m:=by
 refine ⟨h.ev,h.gor,fun o' n=>?_,h.mu,h.dn,⟨h.op.kinds,h.op.at',h.op.own,h.op.head,h.op.rest,h.op.tail⟩,h.gr0,fun o' c' hc'=>?_,h.mub,fun hk=>?_⟩
 ·rw [z8i,z3F]
  by_cases e:o' = o
  ·rw [if_pos e,if_pos (show (toCn o c).obj=o' from e.symm),e];rfl
  ·rw [if_neg e,if_neg (fun h:(toCn o c).obj=o'=>e h.symm)];exact h.ch o' n
 ·rw [z3F] at hc'
  split at hc'
  ·rename_i e;cases hc';rw [e];exact hc
  ·exact h.chb o' c' hc'
 ·rw [z3F]
  show ∃ c',(if s.op.obj=o then some c else s.ch s.op.obj)=some c'
  split
  ·exact ⟨_,rfl⟩
  ·exact h.has hk
theorem Inv.sameCh {s:Ps} {r:Rs} {m:Int} (h:Inv s r m) (o:Int) (c:Ch) (hc:s.ch o=some c):Inv (Go.Proofs.Ytdlgoofjechocaa.z0g s o c) r m:=by
 have e:Go.Proofs.Ytdlgoofjechocaa.z0g s o c=s:=by
  have:(fun x=>if x=o then some c else s.ch x)=s.ch:=by funext x;split;(rename_i e;rw [e,hc]);rfl
  simp only [Go.Proofs.Ytdlgoofjechocaa.z0g,this]
 rw [e];exact h
theorem Inv.countP {s:Ps} {r:Rs} {m:Int} (h:Inv s r m) (e:Ev) (c:Ch) (hc:s.ch e.obj=some c) (hm:m≤5000) (h15:e.kind=15→c.sent+1≤m→ChOk s.op m e.obj { c with sent:=c.sent+1 }) (h17:e.kind=17→c.recv+1≤m→ChOk s.op m e.obj { c with recv:=c.recv+1 })
  (hb:(e.kind=15→c.sent+1≤m)∧(e.kind=17→c.recv+1≤m)):Inv (countP s e) (z0x r e) m:=by
 have hok:=h.chb _ _ hc
 have hcb:=h.ch e.obj e.n
 rw [hc,Option.getD_some] at hcb
 unfold Go.Proofs.Ytdlgoofjechocaa.countP z0x z07
 rw [hc,Option.getD_some,hcb]
 by_cases k15:e.kind=15
 ·have hs:=hok.s0
  have:=hb.1 k15
  rw [if_pos (by simp [k15]),if_pos (by simp [k15]),z6w (by omega) (by omega)]
  have:=h.chTo e.obj { c with sent:=c.sent+1 } (h15 k15 (hb.1 k15))
  have e2:zaf (toCn e.obj c)=toCn e.obj { c with sent:=c.sent+1 }:=by simp [zaf,toCn,z4c (show -9223372036854775808≤c.sent+1 by omega) (by omega)]
  rw [e2];exact this
 ·by_cases k17:e.kind=17
  ·have hs:=hok.r0
   have:=hb.2 k17
   rw [if_neg (by simp [k15]),if_pos (by simp [k17]),if_neg (by simp [k15]),if_pos (by simp [k17]),z6w (by omega) (by omega)]
   have:=h.chTo e.obj { c with recv:=c.recv+1 } (h17 k17 (hb.2 k17))
   have e2:za9 (toCn e.obj c)=toCn e.obj { c with recv:=c.recv+1 }:=by simp [za9,toCn,z4c (show -9223372036854775808≤c.recv+1 by omega) (by omega)]
   rw [e2];exact this
  ·rw [if_neg (by simp [k15]),if_neg (by simp [k17]),if_neg (by simp [k15]),if_neg (by simp [k17])]
   exact h.sameCh _ _ hc
theorem chan_at {s:Ps} {r:Rs} {m:Int} (h:Inv s r m) (e:Ev):z0e e.obj e.n r.chans=toCn e.obj (qA s e):=h.ch e.obj e.n
theorem noAdd_eq {s:Ps} {r:Rs} {m:Int} (h:Inv s r m) (e:Ev):z4D s e=z7A r e:=by simp [z4D,z7A,h.ev,h.gor]
theorem validB_g {e:Ev} (h:z04 e=true) : 0≤e.g∧e.g<8:=by
 simp only [z04,z5x,Bool.and_eq_true,Bool.not_eq_true',Bool.or_eq_false_iff,decide_eq_false_iff_not] at h
 omega
theorem validB_n {e:Ev} (h:z04 e=true) : 0≤e.n:=by
 simp only [z04,Bool.and_eq_true] at h
 have:=List.all_eq_true.1 h.2.1 e.n (by simp [z2t])
 simp [okF] at this;omega
theorem sim_simp {s:Ps} {r:Rs} {m:Int} (h:Inv s r m) (e:Ev) (hm:m≤5000) (hk:s.op.kinds = []):(z0m s e).isSome=(z1f r e).2 ∧ ∀ t,z0m s e=some t→Inv t (z1f r e).1 (m+1)∧t.ev=s.ev:=by
 have hmu:=h.mu e.obj e.off
 have hmb : 0≤(muP s e).readers∧(muP s e).readers≤m:=by
  unfold muP
  cases hu:s.mu e.obj e.off with
  | none =>
   have:=h.gr0
   exact ⟨by simp [mu0],by simp [mu0];omega⟩
  | some u=>exact h.mub _ _ u hu
 have hml:z0r e.obj e.off r.locks=toLk e.obj e.off (muP s e):=hmu
 have hdn:=h.dn e.obj e.off
 have hup:=h.up
 obtain ⟨hr0,hr1⟩:=hmb
 unfold z0m z1f
 rw [hml,hdn]
 obtain ⟨u,hu⟩ : ∃ u,u=muP s e:=⟨_,rfl⟩
 rw [← hu] at hr0 hr1 hml ⊢
 by_cases k6:e.kind=6
 ·simp only [k6,beq_self_eq_true,if_true]
  refine ⟨?_,fun t ht=>?_⟩
  ·by_cases hc:(u.locked||decide (0<u.readers))=true
   ·rw [if_pos hc]
    simp only [Bool.or_eq_true,decide_eq_true_eq] at hc
    simp only [toLk,Option.isSome_none]
    rcases hc with hc|hc
    ·simp [hc]
    ·have:(u.readers==0)=false:=by simp;omega
     simp [this]
   ·rw [if_neg hc]
    simp only [Bool.or_eq_true,decide_eq_true_eq,not_or,Bool.not_eq_true] at hc
    have:u.readers=0:=by omega
    simp [toLk,hc.1,this]
  ·split at ht
   ·cases ht
   ·cases ht;exact ⟨hup.muTo e.obj e.off { u with locked:=true } hr0 (by simp only;omega),rfl⟩
 ·by_cases k7:e.kind=7
  ·simp only [k7,beq_self_eq_true,if_true,show ((7:Int)==6)=false from rfl,Bool.false_eq_true,if_false]
   refine ⟨?_,fun t ht=>?_⟩
   ·cases hl:u.locked <;> simp [toLk,hl]
   ·split at ht
    ·cases ht;exact ⟨hup.muTo e.obj e.off { u with locked:=false } hr0 (by simp only;omega),rfl⟩
    ·cases ht
  ·by_cases k8:e.kind=8
   ·simp only [k8,beq_self_eq_true,if_true,show ((8:Int)==6)=false from rfl,show ((8:Int)==7)=false from rfl,Bool.false_eq_true,if_false]
    have hw:wI (u.readers+1)=u.readers+1:=z6w (by omega) (by omega)
    refine ⟨?_,fun t ht=>?_⟩
    ·cases hl:u.locked <;> simp [toLk,hl]
    ·split at ht
     ·cases ht
     ·cases ht
      have:=hup.muTo e.obj e.off { u with readers:=wI (u.readers+1) } (by simp only [hw];omega) (by simp only [hw];omega)
      exact ⟨this,rfl⟩
   ·by_cases k9:e.kind=9
    ·simp only [k9,beq_self_eq_true,if_true,show ((9:Int)==6)=false from rfl,show ((9:Int)==7)=false from rfl,show ((9:Int)==8)=false from rfl,Bool.false_eq_true,if_false]
     have hw:wI (u.readers-1)=u.readers-1:=z6w (by omega) (by omega)
     refine ⟨?_,fun t ht=>?_⟩
     ·by_cases h0:u.readers=0
      ·have : ¬ (0≤u.readers-1):=by omega
       simp [toLk,hw,h0]
       decide
      ·have h2 : 0≤u.readers-1:=by omega
       simp [toLk,hw,h0,h2];omega
     ·split at ht
      ·cases ht
      ·rename_i hne
       have hne' : u.readers ≠ 0:=by simpa using hne
       cases ht
       have:=hup.muTo e.obj e.off { u with readers:=wI (u.readers-1) } (by simp only [hw];omega) (by simp only [hw];omega)
       exact ⟨this,rfl⟩
    ·by_cases k12:e.kind=12
     ·simp only [k12,beq_self_eq_true,if_true,show ((12:Int)==6)=false from rfl,show ((12:Int)==7)=false from rfl,show ((12:Int)==8)=false from rfl,show ((12:Int)==9)=false from rfl,Bool.false_eq_true,if_false]
      refine ⟨by cases s.dn e.obj e.off <;> rfl,fun t ht=>?_⟩
      split at ht
      ·cases ht
      ·cases ht
       refine ⟨⟨hup.ev,hup.gor,hup.ch,hup.mu,fun o f=>?_,⟨hup.op.kinds,hup.op.at',hup.op.own,hup.op.head,hup.op.rest,hup.op.tail⟩,hup.gr0,hup.chb,hup.mub,hup.has⟩,rfl⟩
       have:=hup.dn o f
       unfold z9h at this ⊢
       simp only [zav,List.any_append,this,List.any_cons,List.any_nil,Bool.or_false]
       rw [Bool.or_comm]
       congr 1
       rw [Bool.eq_iff_iff]
       simp only [Bool.and_eq_true,beq_iff_eq,decide_eq_true_eq]
       exact ⟨fun h=>⟨h.1.symm,h.2.symm⟩,fun h=>⟨h.1.symm,h.2.symm⟩⟩
     ·by_cases k13:e.kind=13
      ·simp only [k13,beq_self_eq_true,if_true,show ((13:Int)==6)=false from rfl,show ((13:Int)==7)=false from rfl,show ((13:Int)==8)=false from rfl,show ((13:Int)==9)=false from rfl,show ((13:Int)==12)=false from rfl,Bool.false_eq_true,if_false]
       refine ⟨by cases s.dn e.obj e.off <;> rfl,fun t ht=>?_⟩
       split at ht
       ·cases ht;exact ⟨hup,rfl⟩
       ·cases ht
      ·by_cases k14:e.kind=14
       ·simp only [k14,beq_self_eq_true,if_true,show ((14:Int)==6)=false from rfl,show ((14:Int)==7)=false from rfl,show ((14:Int)==8)=false from rfl,show ((14:Int)==9)=false from rfl,show ((14:Int)==12)=false from rfl,show ((14:Int)==13)=false from rfl,Bool.false_eq_true,if_false]
        have hg:=h.gr0
        have hw:wI (s.gor+1)=s.gor+1:=z6w (by omega) (by omega)
        have hgr:=h.gor
        refine ⟨?_,fun t ht=>?_⟩
        ·rw [hgr]
         by_cases hk2:e.k=r.gor <;> simp [hk2]
        ·split at ht
         ·cases ht
         ·cases ht
          refine ⟨⟨hup.ev,by simp [hgr],hup.ch,hup.mu,hup.dn,⟨hup.op.kinds,hup.op.at',hup.op.own,hup.op.head,hup.op.rest,hup.op.tail⟩,?_,hup.chb,hup.mub,hup.has⟩,rfl⟩
          simp only [hw];omega
       ·have n6:(e.kind==6)=false:=by simpa using k6
        have n7:(e.kind==7)=false:=by simpa using k7
        have n8:(e.kind==8)=false:=by simpa using k8
        have n9:(e.kind==9)=false:=by simpa using k9
        have n12:(e.kind==12)=false:=by simpa using k12
        have n13:(e.kind==13)=false:=by simpa using k13
        have n14:(e.kind==14)=false:=by simpa using k14
        simp only [n6,n7,n8,n9,n12,n13,n14,Bool.false_eq_true,if_false]
        exact ⟨rfl,fun t ht=>by cases ht;exact ⟨hup,rfl⟩⟩
def zan (r:Rs) (nx:List Wt) (o k n:Int):Rs := { r with next:=nx,obj:=o,k:=k,n:=n }
theorem Inv.to {s:Ps} {r:Rs} {m:Int} (h:Inv s r m) (g:Gp) (nx:List Wt) (ro rk rn o:Int) (c:Ch) (hg:Gk g (zan r nx ro rk rn)) (hc:ChOk g (m+1) o c) (hoth : ∀ o' c',o' ≠ o→s.ch o' = some c' → ChOk g (m+1) o' c') (hobj:g.obj=o) :
  Inv (z0g (z0J s g) o c) (setC (zan r nx ro rk rn) (toCn o c)) (m+1):=by
 have hup:=h.up
 refine ⟨hup.ev,hup.gor,fun o' n=>?_,hup.mu,hup.dn,⟨hg.kinds,hg.at',hg.own,hg.head,hg.rest,hg.tail⟩,hup.gr0,fun o' c' hc'=>?_,hup.mub,fun hk=>⟨c,?_⟩⟩
 ·rw [z8i,z3F]
  by_cases e:o' = o
  ·rw [if_pos e,if_pos (show (toCn o c).obj=o' from e.symm),e];rfl
  ·rw [if_neg e,if_neg (fun h:(toCn o c).obj=o'=>e h.symm)];exact h.ch o' n
 ·rw [z3F] at hc'
  split at hc'
  ·rename_i e;cases hc';rw [e];exact hc
  ·rename_i e;exact hoth o' c' e hc'
 ·show (z0g (z0J s g) o c).ch g.obj=some c
  rw [z3F,if_pos hobj]
theorem Inv.opTo {s:Ps} {r:Rs} {m:Int} (h:Inv s r m) (g:Gp) (nx:List Wt) (hg:Gk g (z3T r nx)) (hall : ∀ o' c',s.ch o' = some c' → ChOk g (m+1) o' c') (hhas:g.kinds ≠ [] → ∃ c,s.ch g.obj=some c):Inv (z0J s g) (z3T r nx) (m+1):=by
 have hup:=h.up
 exact ⟨hup.ev,hup.gor,hup.ch,hup.mu,hup.dn,⟨hg.kinds,hg.at',hg.own,hg.head,hg.rest,hg.tail⟩,hup.gr0,hall,hup.mub,hhas⟩
theorem next_nil {s:Ps} {r:Rs} {m:Int} (h:Inv s r m) (hk:s.op.kinds = []):r.next = []:=by
 have:=h.op.kinds
 rw [hk] at this
 exact List.map_eq_nil_iff.1 this.symm
theorem z9V {s:Ps} {r:Rs} {m:Int} (h:Inv s r m) (e:Ev) (hk:s.op.kinds = []) : 0≤(qA s e).sent∧(qA s e).sent≤m ∧ 0≤(qA s e).recv∧(qA s e).recv≤(qA s e).sent:=by
 have hg:=h.gr0
 unfold qA
 cases hc:s.ch e.obj with
 | none=>simp [ch0];omega
 | some c =>
  have:=h.chb _ _ hc
  exact ⟨this.s0,this.s1,this.r0,this.le (.inl (by rw [hk];simp))⟩
theorem start_eq (s:Ps) (e:Ev) (c:Ch) (kinds:List Int) (snd rcv:Int):z1X s e c kinds snd rcv=z0g (z0J s ⟨kinds,e.obj,e.k,e.n,snd,rcv⟩) e.obj (z07 c e.kind):=by
 unfold z1X countP
 have e1:(z0J (z0g s e.obj c) ⟨kinds,e.obj,e.k,e.n,snd,rcv⟩).ch e.obj=some c:=by show (if e.obj=e.obj then some c else s.ch e.obj)=some c;rw [if_pos rfl]
 rw [e1,Option.getD_some]
 unfold z0g z0J
 simp only [Ps.mk.injEq,true_and,and_true]
 funext x
 split <;> rfl
theorem begin_eq {s:Ps} {r:Rs} {m:Int} (h:Inv s r m) (e:Ev) (nx:List Wt) (hk:e.kind=15∨e.kind=17):z3x r e nx=setC (zan r nx e.obj e.k e.n) (toCn e.obj (z07 (qA s e) e.kind)):=by
 have hc:z0e e.obj e.n (openB r e nx).chans=toCn e.obj (qA s e):=h.ch e.obj e.n
 unfold z3x z0x z07
 rw [hc]
 rcases hk with k|k <;> simp [k,zaf,za9,toCn,openB,zan]
theorem Inv.start {s:Ps} {r:Rs} {m:Int} (h:Inv s r m) (hk:s.op.kinds = []) (e:Ev) (hm:m<5000) (kinds:List Int) (snd rcv:Int) (nx:List Wt) (he:e.kind=15∨e.kind=17) (hkn:kinds=nx.map (·.kind)) (h15:kinds.head? = some 15→e.kind=17)
  (h17:kinds.head? = some 17→e.kind=15) (hle:e.kind=17→kinds.head? ≠ some 15→(qA s e).recv<(qA s e).sent) (hown : ∀ w ∈ nx,w.g=ownP snd rcv w.kind) (hhead : ∀ w l,nx=w :: l→w.g<0→w.not=othP snd rcv w.kind ∧ 0≤othP snd rcv w.kind)
  (hrest : ∀ w l,nx=w :: l → 0≤w.g → ∀ x ∈ l,0≤x.g) (htail : ∀ x ∈ kinds.tail,x ≠ 15∧x ≠ 17):Inv (z1X s e (qA s e) kinds snd rcv) (z3x r e nx) (m+1):=by
 rw [start_eq,begin_eq h e nx he]
 obtain ⟨c0,c1,c2,c3⟩:=z9V h e hk
 obtain ⟨c,hc⟩ : ∃ c,c=qA s e:=⟨_,rfl⟩
 rw [← hc] at c0 c1 c2 c3 hle ⊢
 have hw1:wI (c.sent+1)=c.sent+1:=z6w (by omega) (by omega)
 have hw2:wI (c.recv+1)=c.recv+1:=z6w (by omega) (by omega)
 refine h.to _ nx e.obj e.k e.n e.obj _ ⟨hkn,fun _=>⟨rfl,rfl,rfl⟩,hown,hhead,hrest,htail⟩ ?_ (fun o' c' ho hc'=>?_) rfl
 ·rcases he with k|k
  ·have e2:z07 c e.kind = { c with sent:=c.sent+1 }:=by simp [z07,k,hw1]
   rw [e2]
   refine ⟨by simp only;omega,by simp only;omega,c2,by simp only;omega,fun _=>by simp only;omega,by simp only;omega,fun _=>by simp only;omega⟩
  ·have e2:z07 c e.kind = { c with recv:=c.recv+1 }:=by simp [z07,k,hw2]
   rw [e2]
   refine ⟨c0,by simp only;omega,by simp only;omega,by simp only;omega,fun hh=>?_,by simp only;omega,fun hh=>?_⟩
   ·rcases hh with hh|hh
    ·have:=hle k hh;simp only;omega
    ·exact absurd rfl hh
   ·have:=h17 hh.1;omega
 ·have hco:=h.chb o' c' hc'
  have:=hco.le (.inl (by rw [hk];simp))
  have h0:=hco.s0
  have h1:=hco.s1
  have h2:=hco.r0
  have h3:=hco.r1
  exact ⟨h0,by omega,h2,by omega,fun _=>this,by omega,fun hh=>absurd hh.2 ho⟩
theorem sim_oper {s:Ps} {r:Rs} {m:Int} (h:Inv s r m) (e:Ev) (hm:m<5000) (hk:s.op.kinds = []) (hg0 : 0≤e.g) (hn0 : 0≤e.n):(z0l s e).isSome=(z3k r e).2 ∧ ∀ t,z0l s e=some t→Inv t (z3k r e).1 (m+1)∧t.ev=s.ev:=by
 obtain ⟨c0,c1,c2,c3⟩:=z9V h e hk
 have hch:=chan_at h e
 have hgor:=h.gor
 have hg1:=h.gr0
 have hup:=h.up
 have hst:=fun kinds snd rcv nx=>h.start hk e hm kinds snd rcv nx
 unfold z0l z3k
 rw [hch]
 obtain ⟨c,hc⟩ : ∃ c,c=qA s e:=⟨_,rfl⟩
 rw [← hc] at c0 c1 c2 c3 hst ⊢
 have hw:wI (c.sent-c.recv)=c.sent-c.recv:=z6w (by omega) (by omega)
 have hw' : IntKind.i64.wrap (c.sent-c.recv)=c.sent-c.recv:=hw
 obtain ⟨cn,hcn⟩ : ∃ cn,cn=toCn e.obj c:=⟨_,rfl⟩
 rw [← hcn]
 have f0:cn.obj=e.obj:=by rw [hcn];rfl
 have f1:cn.n=c.cap:=by rw [hcn];rfl
 have f2:cn.sent=c.sent:=by rw [hcn];rfl
 have f3:cn.recv=c.recv:=by rw [hcn];rfl
 have f4:cn.closed=c.closed:=by rw [hcn];rfl
 simp only [f0,f1,f2,f3,f4]
 by_cases hcap:c.cap=e.n
 ·have d0:(c.cap != e.n)=false:=by simp [hcap]
  simp only [d0,Bool.false_eq_true,if_false]
  by_cases k19:e.kind=19
  ·simp only [k19,beq_self_eq_true,if_true,show ((19:Int)==15)=false from rfl,show ((19:Int)==17)=false from rfl,Bool.false_eq_true,if_false]
   by_cases hcl:c.closed=true
   ·rw [if_pos hcl,if_neg (by simp [hcl])];simp
   ·rw [if_neg hcl,if_pos (by simp [hcl])]
    simp only [Option.isSome_some,true_and]
    intro t ht
    cases ht
    refine ⟨?_,rfl⟩
    have:=hup.chTo e.obj { c with closed:=true } ⟨c0,by simp only;omega,c2,by simp only;omega,fun _=>c3,by simp only;omega,fun hh=>by rw [hk] at hh;simp at hh⟩
    exact this
  ·by_cases k20:e.kind=20
   ·simp only [k20,beq_self_eq_true,if_true,show ((20:Int)==15)=false from rfl,show ((20:Int)==17)=false from rfl,show ((20:Int)==19)=false from rfl,Bool.false_eq_true,if_false]
    cases hb:(c.closed&&c.sent==c.recv) with
    | true=>simp only [if_true,Option.isSome_some,true_and];intro t ht;cases ht;exact ⟨hup,rfl⟩
    | false=>simp
   ·have n19:(e.kind==19)=false:=by simpa using k19
    have n20:(e.kind==20)=false:=by simpa using k20
    by_cases k15:e.kind=15
    ·simp only [k15,beq_self_eq_true,if_true,show ((15:Int)==19)=false from rfl,show ((15:Int)==20)=false from rfl,Bool.false_eq_true,if_false]
     rw [Bool.or_comm c.closed]
     by_cases hb:(e.k != c.sent||c.closed)=true
     ·rw [if_pos hb,if_pos hb];simp
     ·rw [if_neg hb,if_neg hb,hw,hw']
      by_cases hlt:c.sent-c.recv<c.cap
      ·have e1:(decide (0<c.cap)&&decide (c.sent-c.recv<c.cap))=true:=by simp;omega
       rw [if_pos hlt,if_pos e1]
       refine ⟨rfl,fun t ht=>?_⟩
       cases ht
       refine ⟨hst [16] e.g (-1) [⟨16,e.g,0⟩] (.inl k15) rfl (by simp) (by simp) (fun h17=>by omega) (by simp [ownP,qV]) (fun w l hl hw=>?_) (fun w l hl hw x hx=>?_) (by simp),rfl⟩
       ·cases hl;simp only at hw;omega
       ·cases hl;cases hx
      ·have e1:(decide (0<c.cap)&&decide (c.sent-c.recv<c.cap))=false:=by simp [hlt]
       rw [if_neg hlt,if_neg (show ¬ (decide (0<c.cap)&&decide (c.sent-c.recv<c.cap))=true by rw [e1];simp)]
       by_cases h2:(c.cap==0 && !(s.gor==1))=true
       ·have e2:(c.cap==0&&decide (1<r.gor))=true:=by
         simp only [Bool.and_eq_true,beq_iff_eq,Bool.not_eq_true',beq_eq_false_iff_ne,decide_eq_true_eq] at h2 ⊢
         exact ⟨h2.1,by rw [← hgor];have:=h2.2;omega⟩
        rw [if_pos h2,if_pos e2]
        refine ⟨rfl,fun t ht=>?_⟩
        cases ht
        refine ⟨hst [17,18,16] e.g (-1) [⟨17,-1,e.g⟩,⟨18,-1,0⟩,⟨16,e.g,0⟩] (.inl k15) rfl (by simp) (fun _=>k15) (fun h17=>by omega) (by simp [ownP,qV]) (fun w l hl hw=>?_) (fun w l hl hw x hx=>?_) (by simp),rfl⟩
        ·cases hl;exact ⟨by simp [othP,qV],by simp [othP,qV];exact hg0⟩
        ·cases hl;simp only at hw;omega
       ·have e2:(c.cap==0&&decide (1<r.gor))=false:=by
         rw [← hgor]
         cases h3:(c.cap==0) with
         | false=>rfl
         | true =>
          rw [h3] at h2
          simp only [Bool.true_and,Bool.not_eq_true',Bool.not_eq_false,beq_iff_eq] at h2
          simp [h2]
        rw [if_neg h2,if_neg (show ¬ (c.cap==0&&decide (1<r.gor))=true by rw [e2];simp)];simp
    ·have n15:(e.kind==15)=false:=by simpa using k15
     by_cases k17:e.kind=17
     ·simp only [k17,beq_self_eq_true,if_true,show ((17:Int)==19)=false from rfl,show ((17:Int)==20)=false from rfl,show ((17:Int)==15)=false from rfl,Bool.false_eq_true,if_false]
      by_cases hb:(e.k != c.recv)=true
      ·rw [if_pos hb,if_pos hb];simp
      ·rw [if_neg hb,if_neg hb]
       by_cases hlt:c.recv<c.sent
       ·rw [if_pos hlt,if_pos (by simpa using hlt)]
        refine ⟨rfl,fun t ht=>?_⟩
        cases ht
        refine ⟨hst [18] (-1) e.g [⟨18,e.g,0⟩] (.inr k17) rfl (by simp) (by simp) (fun _ _=>hlt) (by simp [ownP,qV]) (fun w l hl hw=>?_) (fun w l hl hw x hx=>?_) (by simp),rfl⟩
        ·cases hl;simp only at hw;omega
        ·cases hl;cases hx
       ·rw [if_neg hlt,if_neg (show ¬ decide (c.recv<c.sent)=true by simpa using hlt)]
        by_cases h2:(!c.closed && !(s.gor==1))=true
        ·have e2:(!c.closed&&decide (1<r.gor))=true:=by
          simp only [Bool.and_eq_true,Bool.not_eq_true',beq_eq_false_iff_ne,decide_eq_true_eq] at h2 ⊢
          exact ⟨h2.1,by rw [← hgor];have:=h2.2;omega⟩
         rw [if_pos h2,if_pos e2]
         refine ⟨rfl,fun t ht=>?_⟩
         cases ht
         refine ⟨hst [15,18,16] (-1) e.g [⟨15,-1,e.g⟩,⟨18,e.g,0⟩,⟨16,-1,0⟩] (.inr k17) rfl (fun _=>k17) (by simp) (fun _ hh=>absurd rfl hh) (by simp [ownP,qV]) (fun w l hl hw=>?_) (fun w l hl hw x hx=>?_) (by simp),rfl⟩
         ·cases hl;exact ⟨by simp [othP,qV],by simp [othP,qV];exact hg0⟩
         ·cases hl;simp only at hw;omega
        ·have e2:(!c.closed&&decide (1<r.gor))=false:=by
          rw [← hgor]
          cases h3:(!c.closed) with
          | false=>rfl
          | true =>
           rw [h3] at h2
           simp only [Bool.true_and,Bool.not_eq_true',Bool.not_eq_false,beq_iff_eq] at h2
           simp [h2]
         rw [if_neg h2,if_neg (show ¬ (!c.closed&&decide (1<r.gor))=true by rw [e2];simp)];simp
     ·have n17:(e.kind==17)=false:=by simpa using k17
      simp [n15,n17,n19,n20]
 ·have d0:(c.cap != e.n)=true:=by simp [hcap]
  simp [d0]
theorem z9s (e:Ev) (w x:Wt):(fixW e w x).kind=x.kind:=by unfold fixW;split <;> rfl
theorem fix_map (e:Ev) (w:Wt) (l:List Wt):(l.map (fixW e w)).map (·.kind)=l.map (·.kind):=by
 rw [List.map_map];exact List.map_congr_left fun x _=>z9s e w x
theorem z1j (o:Gp) (e:Ev) (r:List Int):(z0N o e r).kinds=r:=by unfold z0N;split <;> rfl
theorem z4R (o:Gp) (e:Ev) (r:List Int):(z0N o e r).obj=o.obj:=by unfold z0N;split <;> rfl
theorem ownGp_k (o:Gp) (e:Ev) (r:List Int):(z0N o e r).k=o.k:=by unfold z0N;split <;> rfl
theorem ownGp_n (o:Gp) (e:Ev) (r:List Int):(z0N o e r).n=o.n:=by unfold z0N;split <;> rfl
theorem ownGp_own (o:Gp) (e:Ev) (r:List Int) (k:Int):ownP (z0N o e r).snd (z0N o e r).rcv k=if qV k=qV e.kind then e.g else ownP o.snd o.rcv k:=by
 unfold z0N ownP
 cases h1:qV e.kind <;> cases h2:qV k <;> simp
theorem z9L {s r k k' : Int} (h:qV k=qV k'):ownP s r k=ownP s r k':=by unfold ownP;rw [h]
theorem oth_side {s r k k' : Int} (h:qV k ≠ qV k'):ownP s r k=othP s r k':=by
 unfold ownP othP
 cases h1:qV k <;> cases h2:qV k' <;> simp_all
theorem gk_next {g:Gp} {r:Rs} (h:Gk g r) {w:Wt} {l:List Wt} (hw:r.next=w :: l) (e:Ev) (hk:e.kind=w.kind) (hg0 : 0≤e.g) (hok : 0≤w.g→e.g=w.g):Gk (z0N g e (l.map (·.kind))) (z3T r (l.map (fixW e w))):=by
 have ho:=h.own
 rw [hw] at ho
 have how:=ho w (by simp)
 have hres : ∀ x ∈ l,(fixW e w x).g=(if qV x.kind=qV e.kind then e.g else ownP g.snd g.rcv x.kind) ∧ 0≤(fixW e w x).g:=fun x hx=>by
  have hox:=ho x (List.mem_cons_of_mem _ hx)
  unfold fixW
  by_cases hwg:w.g<0
  ·obtain ⟨_,h2⟩:=h.head w l hw hwg
   by_cases hs:qV x.kind=qV e.kind
   ·rw [if_pos hs]
    have e1:x.g=w.g:=by rw [hox,how];exact z9L (by rw [hs,hk])
    rw [if_pos (by simp;omega)]
    exact ⟨rfl,hg0⟩
   ·rw [if_neg hs]
    have e1:x.g=othP g.snd g.rcv w.kind:=by rw [hox];exact oth_side (by rw [← hk];exact hs)
    rw [if_neg (by simp;omega)]
    exact ⟨hox,by omega⟩
  ·rw [if_neg (by simp;omega)]
   have h0 : 0≤w.g:=by omega
   refine ⟨?_,h.rest w l hw h0 x hx⟩
   by_cases hs:qV x.kind=qV e.kind
   ·rw [if_pos hs,hok h0,hox,how];exact z9L (by rw [hs,hk])
   ·rw [if_neg hs];exact hox
 have hat:=h.at' (by rw [hw];simp)
 have hall : ∀ x' ∈ l.map (fixW e w),0≤x'.g:=fun x' hx'=>by
  obtain ⟨x,hx,rfl⟩:=List.mem_map.1 hx'
  exact (hres x hx).2
 refine ⟨?_,fun _=>?_,fun x' hx'=>?_,fun w' l' hw' hneg=>?_,fun w' l' hw' h0 x' hx'=>?_,fun x hx=>?_⟩
 ·rw [z1j];exact (fix_map e w l).symm
 ·rw [z4R,ownGp_k,ownGp_n];exact hat
 ·obtain ⟨x,hx,rfl⟩:=List.mem_map.1 hx'
  rw [ownGp_own,z9s]
  exact (hres x hx).1
 ·have:=hall w' (by rw [show l.map (fixW e w)=w' :: l' from hw'];simp)
  omega
 ·exact hall x' (by rw [show l.map (fixW e w)=w' :: l' from hw'];exact List.mem_cons_of_mem _ hx')
 ·rw [z1j] at hx
  refine h.tail x ?_
  rw [h.kinds,hw,List.map_cons,List.tail_cons]
  exact List.mem_of_mem_tail hx
theorem sim_group {s:Ps} {r:Rs} {m:Int} (h:Inv s r m) (e:Ev) (hm:m<5000) (hg0 : 0≤e.g) {kd:Int} {ks:List Int} (hk:s.op.kinds=kd :: ks) : ∃ w l,r.next=w :: l∧(z2I s kd ks e).isSome=(z1e r e w l).2 ∧ ∀ t,z2I s kd ks e=some t→Inv t (z1e r e w l).1 (m+1)∧t.ev=s.ev:=by
 have hkn:=h.op.kinds
 rw [hk] at hkn
 cases hw:r.next with
 | nil=>rw [hw] at hkn;cases hkn
 | cons w l =>
  rw [hw] at hkn
  simp only [List.map_cons,List.cons.injEq] at hkn
  obtain ⟨hkd,hks⟩:=hkn
  refine ⟨w,l,rfl,?_⟩
  obtain ⟨a1,a2,a3⟩:=h.op.at' (by rw [hw];simp)
  have how:=h.op.own w (by rw [hw];simp)
  have hbad:badB r e w = !(fitP s.op kd e && !badP (ownP s.op.snd s.op.rcv e.kind) (othP s.op.snd s.op.rcv e.kind) e.g):=by
   unfold badB fitP
   rw [← a1,← a2,← a3,← hkd]
   by_cases hek:e.kind=kd
   ·have e1:ownP s.op.snd s.op.rcv e.kind=w.g:=by rw [how,hek,hkd]
    rw [e1]
    unfold badP
    by_cases hneg:w.g<0
    ·have hh:=(h.op.head w l hw hneg).1
     have e2:othP s.op.snd s.op.rcv e.kind=w.not:=by rw [hh,hek,hkd]
     rw [e2]
     have : ¬ 0≤w.g:=by omega
     simp [hneg,this,Bool.or_assoc]
    ·have h0 : 0≤w.g:=by omega
     simp [hneg,h0,Bool.or_assoc]
   ·have e1:(e.kind != kd)=true:=by simpa using hek
    simp [e1]
  have hproc:z2I s kd ks e=if badB r e w=false then some (countP (z0J s (z0N s.op e ks)) e) else none:=by
   unfold z2I
   rw [hbad]
   cases fitP s.op kd e <;> cases badP (ownP s.op.snd s.op.rcv e.kind) (othP s.op.snd s.op.rcv e.kind) e.g <;> simp
  rw [hproc]
  unfold z1e
  cases hb:badB r e w with
  | true=>simp
  | false =>
   simp only [if_true,Bool.false_eq_true,if_false,Option.isSome_some,true_and]
   intro t ht
   cases ht
   refine ⟨?_,rfl⟩
   have hb2:=hb
   simp only [badB,Bool.or_eq_false_iff,bne_eq_false_iff_eq] at hb2
   obtain ⟨⟨⟨⟨⟨b1,b2⟩,b3⟩,b4⟩,b5⟩,b6⟩:=hb2
   have hok : 0≤w.g→e.g=w.g:=fun h0=>by simpa [h0] using b5
   have hg:=gk_next h.op hw e b1 hg0 hok
   rw [← hks] at hg
   have hobj:e.obj=s.op.obj:=by rw [b2,a1]
   obtain ⟨c,hc⟩:=h.has (by rw [hk];simp)
   rw [← hobj] at hc
   have hco:=h.chb _ _ hc
   have htl : ∀ x ∈ ks,x ≠ 15∧x ≠ 17:=fun x hx=>h.op.tail x (by rw [hk];exact hx)
   have hh15:ks.head? ≠ some 15:=fun h2=>by
    cases ks with
    | nil=>cases h2
    | cons y ks=>cases h2;exact (htl 15 (by simp)).1 rfl
   have hh17:ks.head? ≠ some 17:=fun h2=>by
    cases ks with
    | nil=>cases h2
    | cons y ks=>cases h2;exact (htl 17 (by simp)).2 rfl
   have hhd:s.op.kinds.head? = some e.kind:=by rw [hk,b1,hkd];rfl
   have hoth : ∀ o' c',o' ≠ e.obj→s.ch o' = some c' → ChOk (z0N s.op e ks) (m+1) o' c':=fun o' c' ho hc'=>by
    have h1:=(h.chb _ _ hc').up
    exact ⟨h1.s0,h1.s1,h1.r0,h1.r1,fun _=>h1.le (.inr (by rw [← hobj];exact ho)),h1.le1,fun hh=>by rw [z1j] at hh;exact absurd hh.1 hh17⟩
   have hcnt:countP (z0J s (z0N s.op e ks)) e=z0g (z0J s (z0N s.op e ks)) e.obj (z07 c e.kind):=by
    unfold countP
    rw [show (z0J s (z0N s.op e ks)).ch e.obj=some c from hc,Option.getD_some]
   have hreq : ∀ c',z07 c e.kind=c' → (e.kind=15∨e.kind=17)→z0x (z3T r (l.map (fixW e w))) e=setC (zan r (l.map (fixW e w)) r.obj r.k r.n) (toCn e.obj c'):=fun c' hc' hk2=>by
    have hcb:z0e e.obj e.n (z3T r (l.map (fixW e w))).chans=toCn e.obj c:=by
     have:=h.ch e.obj e.n
     rw [hc,Option.getD_some] at this
     exact this
    unfold z0x
    rw [hcb,← hc']
    unfold z07
    rcases hk2 with k|k <;> simp [k,zaf,za9,toCn,z3T,zan]
   have s0:=hco.s0
   have s1:=hco.s1
   have r0:=hco.r0
   have r1:=hco.r1
   have le1:=hco.le1
   by_cases k15:e.kind=15
   ·have hw1:wI (c.sent+1)=c.sent+1:=z6w (by omega) (by omega)
    have e2:z07 c e.kind = { c with sent:=c.sent+1 }:=by simp [z07,k15,hw1]
    rw [hcnt,hreq _ e2 (.inl k15),e2]
    refine h.to (z0N s.op e ks) (l.map (fixW e w)) r.obj r.k r.n e.obj _ ⟨hg.kinds,hg.at',hg.own,hg.head,hg.rest,hg.tail⟩ ⟨by simp only;omega,by simp only;omega,r0,by simp only;omega,fun _=>by simp only;omega,by simp only;omega,fun hh=>?_⟩ hoth (by rw [z4R];exact hobj.symm)
    rw [z1j] at hh;exact absurd hh.1 hh17
   ·have hle:=hco.le (.inl (by rw [hhd];simpa using k15))
    by_cases k17:e.kind=17
    ·have hlt:=hco.lt ⟨by rw [hhd,k17],hobj⟩
     have hw1:wI (c.recv+1)=c.recv+1:=z6w (by omega) (by omega)
     have e2:z07 c e.kind = { c with recv:=c.recv+1 }:=by simp [z07,k17,hw1]
     rw [hcnt,hreq _ e2 (.inr k17),e2]
     refine h.to (z0N s.op e ks) (l.map (fixW e w)) r.obj r.k r.n e.obj _ ⟨hg.kinds,hg.at',hg.own,hg.head,hg.rest,hg.tail⟩ ⟨by simp only;omega,by simp only;omega,by simp only;omega,by simp only;omega,fun _=>by simp only;omega,by simp only;omega,fun hh=>?_⟩ hoth (by rw [z4R];exact hobj.symm)
     rw [z1j] at hh;exact absurd hh.1 hh17
    ·have e2:z07 c e.kind=c:=by simp [z07,k15,k17]
     have e3:z0x (z3T r (l.map (fixW e w))) e=z3T r (l.map (fixW e w)):=by simp [z0x,k15,k17]
     rw [hcnt,e2,e3]
     have hinv:=h.opTo (z0N s.op e ks) (l.map (fixW e w)) hg (fun o' c' hc'=>by
      by_cases ho:o' = e.obj
      ·subst ho
       rw [hc] at hc';cases hc'
       exact ⟨s0,by omega,r0,by omega,fun _=>hle,le1,fun hh=>by rw [z1j] at hh;exact absurd hh.1 hh17⟩
      ·exact hoth o' c' ho hc') (fun _=>⟨c,by rw [z4R,← hobj];exact hc⟩)
     exact hinv.sameCh e.obj c hc
theorem sim_add {s:Ps} {r:Rs} {m:Int} (h:Inv s r m) (hev:s.ev=m) (e:Ev):(addP s e).isSome=(addB r e).2 ∧ ∀ t,addP s e=some t→Inv t (addB r e).1 (m+1)∧t.ev=m+1:=by
 have hno:=noAdd_eq h e
 have hg1:=h.gr0
 unfold addP addB
 rw [hno]
 cases hn:z7A r e with
 | true=>simp
 | false =>
  have hn2:=hn
  simp only [z7A,Bool.or_eq_false_iff,Bool.not_eq_false',decide_eq_false_iff_not] at hn2
  obtain ⟨⟨hv,hcn⟩,_⟩:=hn2
  have hm:m<5000:=by rw [← h.ev,hev] at hcn;omega
  have hg0:=(validB_g hv).1
  have hn0:=validB_n hv
  have hstep:(z0z s e).isSome=(z4q r e).2 ∧ ∀ t,z0z s e=some t→Inv t (z4q r e).1 (m+1)∧t.ev=s.ev:=by
   unfold z0z
   cases hk:s.op.kinds with
   | cons kd ks =>
    obtain ⟨w,l,h1,h2⟩:=sim_group h e hm hg0 hk
    have:z4q r e=z1e r e w l:=by unfold z4q;rw [h1]
    rw [this]
    exact h2
   | nil =>
    have hnx:=next_nil h hk
    have:z4q r e=if qD e.kind=true then z3k r e else z1f r e:=by unfold z4q;rw [hnx]
    rw [this]
    dsimp only
    cases hc:qD e.kind with
    | true=>simp only [if_true];exact sim_oper h e hm hk hg0 hn0
    | false=>simp only [Bool.false_eq_true,if_false];exact sim_simp h e (by omega) hk
  simp only [Bool.false_eq_true,if_false]
  rw [← hstep.1]
  cases hs:z0z s e with
  | none=>simp
  | some t =>
   obtain ⟨h1,h2⟩:=hstep.2 t hs
   simp only [Option.map_some,Option.isSome_some,if_true,true_and]
   intro t' ht'
   cases ht'
   refine ⟨h1.cnt,?_⟩
   show wI (t.ev+1)=m+1
   rw [h2,hev]
   exact z6w (by omega) (by omega)
theorem go_eq : ∀ (l:List Ev) {s:Ps} {r:Rs} {m:Int} (k:Int),Inv s r m→s.ev=m→goP s l=(goB r k l).2
 | [],_,_,_,_,_,_=>rfl
 | e :: l,s,r,m,k,h,hev=>by
  obtain ⟨h1,h2⟩:=sim_add h hev e
  rw [goP,goB,← h1]
  cases ha:addP s e with
  | none=>simp
  | some t =>
   obtain ⟨h3,h4⟩:=h2 t ha
   simp only [Option.isSome_some,if_true]
   exact go_eq l (k+1) h3 h4
theorem z4F (l:List Ev):goP ps0 l=(qx l).2:=go_eq l 0 inv0 rfl
end Go.Proofs.Ytdlgoofjechocaa
