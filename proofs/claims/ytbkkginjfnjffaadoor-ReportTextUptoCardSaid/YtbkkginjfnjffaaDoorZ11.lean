/- Texts Nc, Oa, Od, Ob, Oc. -/
import Derived.Lib.ItoaLen
import Derived.Ground.NamesProg
import Derived.Shelf.Strings.OnBuilder
import Derived.Shelf.Strconv.Itoa3
import Derived.Shelf.Strings.Builder1
import Derived.Shelf.Strings.BuilderX
import Derived.Test.YtbkkginjfnjffaaDoorZ10
set_option maxHeartbeats 32000000
set_option maxRecDepth 100000
set_option linter.unusedSimpArgs false
set_option linter.unusedVariables false
namespace Go.Proofs.YtbkkginjfnjffaaDoor
open Go.RowKit Go.Sort
structure In5 where
 op:Int
 a:Int
 b:Int
 c:Int
 at' : Int
structure Fu where
 name:ByteArray
 pa:Int
 re:Int
 code:List In5
def inC5 (i:In5):List PV := [.val (.int .i64 i.op),.val (.int .i64 i.a),.val (.int .i64 i.b),.val (.int .i64 i.c),.val (.int .i64 i.at')]
def fuC (f:Fu):List PV := [.val (.string f.name),.val (.int .i64 f.pa),.val (.int .i64 f.re),.seq 5 (f.code.map inC5)]
theorem in_at {l:List In5} {k:Nat} {i:In5} (h:l[k]? = some i):(l.map inC5)[k]? = some [.val (.int .i64 i.op),.val (.int .i64 i.a),.val (.int .i64 i.b),.val (.int .i64 i.c),.val (.int .i64 i.at')]:=by
 rw [List.getElem?_map,h];rfl
theorem z6n {l:List Fu} {k:Nat} {f:Fu} (h:l[k]? = some f):(l.map fuC)[k]? = some [.val (.string f.name),.val (.int .i64 f.pa),.val (.int .i64 f.re),.seq 5 (f.code.map inC5)]:=by
 rw [List.getElem?_map,h];rfl
def pgA (fs:List Fu) (g y:PV) (mn:Int):AV := .agg [.p (.seq 4 (fs.map fuC)),.p g,.p y,.int mn]
def getZ {α:Type} (l:List α) (i:Int):Option α:=if i<0 then none else l[i.toNat]?
def qw (fs:List Fu) (st:List Int) (sz:Int) (s:P2):Int:=match getZ fs s.1 with
 | none => 0
 | some f=>match getZ f.code s.2 with
  | none => 0
  | some i=>if (posN st sz i.at').2.2=0 then (posN st sz i.at').1 else 0
theorem z0B {α:Type} {l:List α} {i:Int} (h:i<0):getZ l i=none:=by simp [getZ,h]
theorem z1l {α:Type} {l:List α} {i:Int} (h:(l.length:Int)≤i):getZ l i=none:=by
 unfold getZ
 split
 ·rfl
 ·exact List.getElem?_eq_none (by omega)
theorem z1k {α:Type} {l:List α} {i:Int} (h0 : 0≤i) (h:i<(l.length:Int)) : ∃ x,getZ l i=some x∧l[i.toNat]? = some x:=by
 obtain ⟨x,hx⟩:=z01 (l:=l) (k:=i.toNat) (by omega)
 exact ⟨x,by unfold getZ;rw [if_neg (by omega),hx],hx⟩
theorem z5u (fs:List Fu) (g y:PV) (mn:Int) (st:List Int) (sz:Int) (s:P2) (hl:st.length≤1000000):zy Tryd.prog 13 [pgA fs g y mn,lnA st sz,p2A s] (.int (qw fs st sz s)):=by
 have hfl:(fs.map fuC).length=fs.length:=by simp
 simp only [pgA,lnA,p2A]
 by_cases h1:s.1<0
 ·have f1:decide (s.1<0)=true:=by simpa using h1
  have he:qw fs st sz s=0:=by simp [qw,z0B h1]
  refine zy.of Tryd.func13 rfl 60 rfl (by decide) (by simp [AV.okB]) ?_
  repeat' (first|refine T.zk fun K hK=>?_|apply T.block|(refine T.reg (by kernel_rfl) fun K' hK'=>?_;simp only [bz];(with_reducible repeat' (first|(apply WL.fin;apply hK';clear hK' K')|(refine WL.step fun K2 hK2=>?_;simp only [simprocAttr,implies_true,amz,zb,tys];repeat' (first|(apply hK2;clear hK2 K2)|apply And.intro|intro hb)))))|apply T.skip|apply T.exit|refine T.zf rfl ?_|refine T.ze rfl ?_|refine T.cond rfl (fun hc=>?_) (fun hc=>?_)|apply T.ret|simp only [za,z8,reduceIte,Nat.reduceEqDiff]|((repeat ((fail_if_success apply hK);clear hK K));apply hK;clear hK K))
  refine T.drw 28 (by kernel_rfl) (by kernel_rfl) fun K' hK'=>?_;simp only [List.map_cons,List.map_nil];(repeat' (first|(with_reducible refine WL.fin ?_;apply hK';clear hK' K')|(with_reducible refine WD.fin ?_)|((with_reducible first|refine WL.step fun K2 hK2=>?_|refine WD.step fun K2 hK2=>?_);simp only [simprocAttr,implies_true,amz,zb,tys,hfl,f1];(repeat' with_reducible (first|(apply hK2;clear hK2 K2)|apply And.intro|intro hb)))));all_goals ((try simp only [za,z8,reduceIte,Nat.reduceEqDiff]);(try ((repeat ((fail_if_success apply hK);clear hK K));apply hK;clear hK K)))
  all_goals repeat' (first|refine T.zk fun K hK=>?_|apply T.block|(refine T.reg (by kernel_rfl) fun K' hK'=>?_;simp only [bz];(with_reducible repeat' (first|(apply WL.fin;apply hK';clear hK' K')|(refine WL.step fun K2 hK2=>?_;simp only [simprocAttr,implies_true,amz,zb,tys];repeat' (first|(apply hK2;clear hK2 K2)|apply And.intro|intro hb)))))|apply T.skip|apply T.exit|refine T.zf rfl ?_|refine T.ze rfl ?_|refine T.cond rfl (fun hc=>?_) (fun hc=>?_)|apply T.ret|simp only [za,z8,reduceIte,Nat.reduceEqDiff]|((repeat ((fail_if_success apply hK);clear hK K));apply hK;clear hK K))
  all_goals (refine qf.ret (.inr rfl) Tryd.results13 ?_;simp only [zR,zA,zB,simprocAttr,implies_true,amz,zb,tys,he])
 have f1:decide (s.1<0)=false:=by simpa using h1
 by_cases h2:(fs.length:Int)≤s.1
 ·have f2:decide ((fs.length:Int)≤s.1)=true:=by simpa using h2
  have he:qw fs st sz s=0:=by simp [qw,z1l h2]
  refine zy.of Tryd.func13 rfl 60 rfl (by decide) (by simp [AV.okB]) ?_
  repeat' (first|refine T.zk fun K hK=>?_|apply T.block|(refine T.reg (by kernel_rfl) fun K' hK'=>?_;simp only [bz];(with_reducible repeat' (first|(apply WL.fin;apply hK';clear hK' K')|(refine WL.step fun K2 hK2=>?_;simp only [simprocAttr,implies_true,amz,zb,tys];repeat' (first|(apply hK2;clear hK2 K2)|apply And.intro|intro hb)))))|apply T.skip|apply T.exit|refine T.zf rfl ?_|refine T.ze rfl ?_|refine T.cond rfl (fun hc=>?_) (fun hc=>?_)|apply T.ret|simp only [za,z8,reduceIte,Nat.reduceEqDiff]|((repeat ((fail_if_success apply hK);clear hK K));apply hK;clear hK K))
  refine T.drw 28 (by kernel_rfl) (by kernel_rfl) fun K' hK'=>?_;simp only [List.map_cons,List.map_nil];(repeat' (first|(with_reducible refine WL.fin ?_;apply hK';clear hK' K')|(with_reducible refine WD.fin ?_)|((with_reducible first|refine WL.step fun K2 hK2=>?_|refine WD.step fun K2 hK2=>?_);simp only [simprocAttr,implies_true,amz,zb,tys,hfl,f1,f2];(repeat' with_reducible (first|(apply hK2;clear hK2 K2)|apply And.intro|intro hb)))));all_goals ((try simp only [za,z8,reduceIte,Nat.reduceEqDiff]);(try ((repeat ((fail_if_success apply hK);clear hK K));apply hK;clear hK K)))
  all_goals repeat' (first|refine T.zk fun K hK=>?_|apply T.block|(refine T.reg (by kernel_rfl) fun K' hK'=>?_;simp only [bz];(with_reducible repeat' (first|(apply WL.fin;apply hK';clear hK' K')|(refine WL.step fun K2 hK2=>?_;simp only [simprocAttr,implies_true,amz,zb,tys];repeat' (first|(apply hK2;clear hK2 K2)|apply And.intro|intro hb)))))|apply T.skip|apply T.exit|refine T.zf rfl ?_|refine T.ze rfl ?_|refine T.cond rfl (fun hc=>?_) (fun hc=>?_)|apply T.ret|simp only [za,z8,reduceIte,Nat.reduceEqDiff]|((repeat ((fail_if_success apply hK);clear hK K));apply hK;clear hK K))
  all_goals (refine qf.ret (.inr rfl) Tryd.results13 ?_;simp only [zR,zA,zB,simprocAttr,implies_true,amz,zb,tys,he])
 have f2:decide ((fs.length:Int)≤s.1)=false:=by simpa using h2
 obtain ⟨f,hf,hf2⟩:=z1k (l:=fs) (i:=s.1) (by omega) (by omega)
 have mf:=z6n hf2
 have i1:(0≤s.1)=True:=eq_true (by omega)
 have hcl:(f.code.map inC5).length=f.code.length:=by simp
 by_cases h3:s.2<0
 ·have f3:decide (s.2<0)=true:=by simpa using h3
  have he:qw fs st sz s=0:=by simp [qw,hf,z0B h3]
  refine zy.of Tryd.func13 rfl 60 rfl (by decide) (by simp [AV.okB]) ?_
  repeat' (first|refine T.zk fun K hK=>?_|apply T.block|(refine T.reg (by kernel_rfl) fun K' hK'=>?_;simp only [bz];(with_reducible repeat' (first|(apply WL.fin;apply hK';clear hK' K')|(refine WL.step fun K2 hK2=>?_;simp only [simprocAttr,implies_true,amz,zb,tys];repeat' (first|(apply hK2;clear hK2 K2)|apply And.intro|intro hb)))))|apply T.skip|apply T.exit|refine T.zf rfl ?_|refine T.ze rfl ?_|refine T.cond rfl (fun hc=>?_) (fun hc=>?_)|apply T.ret|simp only [za,z8,reduceIte,Nat.reduceEqDiff]|((repeat ((fail_if_success apply hK);clear hK K));apply hK;clear hK K))
  refine T.drw 28 (by kernel_rfl) (by kernel_rfl) fun K' hK'=>?_;simp only [List.map_cons,List.map_nil];(repeat' (first|(with_reducible refine WL.fin ?_;apply hK';clear hK' K')|(with_reducible refine WD.fin ?_)|((with_reducible first|refine WL.step fun K2 hK2=>?_|refine WD.step fun K2 hK2=>?_);simp only [simprocAttr,implies_true,amz,zb,tys,hfl,f1,f2,f3];(repeat' with_reducible (first|(apply hK2;clear hK2 K2)|apply And.intro|intro hb)))));all_goals ((try simp only [za,z8,reduceIte,Nat.reduceEqDiff]);(try ((repeat ((fail_if_success apply hK);clear hK K));apply hK;clear hK K)))
  all_goals repeat' (first|refine T.zk fun K hK=>?_|apply T.block|(refine T.reg (by kernel_rfl) fun K' hK'=>?_;simp only [bz];(with_reducible repeat' (first|(apply WL.fin;apply hK';clear hK' K')|(refine WL.step fun K2 hK2=>?_;simp only [simprocAttr,implies_true,amz,zb,tys];repeat' (first|(apply hK2;clear hK2 K2)|apply And.intro|intro hb)))))|apply T.skip|apply T.exit|refine T.zf rfl ?_|refine T.ze rfl ?_|refine T.cond rfl (fun hc=>?_) (fun hc=>?_)|apply T.ret|simp only [za,z8,reduceIte,Nat.reduceEqDiff]|((repeat ((fail_if_success apply hK);clear hK K));apply hK;clear hK K))
  all_goals (refine qf.ret (.inr rfl) Tryd.results13 ?_;simp only [zR,zA,zB,simprocAttr,implies_true,amz,zb,tys,he])
 have f3:decide (s.2<0)=false:=by simpa using h3
 by_cases h4:(f.code.length:Int)≤s.2
 ·have f4:decide ((f.code.length:Int)≤s.2)=true:=by simpa using h4
  have he:qw fs st sz s=0:=by simp [qw,hf,z1l h4]
  refine zy.of Tryd.func13 rfl 60 rfl (by decide) (by simp [AV.okB]) ?_
  repeat' (first|refine T.zk fun K hK=>?_|apply T.block|(refine T.reg (by kernel_rfl) fun K' hK'=>?_;simp only [bz];(with_reducible repeat' (first|(apply WL.fin;apply hK';clear hK' K')|(refine WL.step fun K2 hK2=>?_;simp only [simprocAttr,implies_true,amz,zb,tys];repeat' (first|(apply hK2;clear hK2 K2)|apply And.intro|intro hb)))))|apply T.skip|apply T.exit|refine T.zf rfl ?_|refine T.ze rfl ?_|refine T.cond rfl (fun hc=>?_) (fun hc=>?_)|apply T.ret|simp only [za,z8,reduceIte,Nat.reduceEqDiff]|((repeat ((fail_if_success apply hK);clear hK K));apply hK;clear hK K))
  refine T.drw 28 (by kernel_rfl) (by kernel_rfl) fun K' hK'=>?_;simp only [List.map_cons,List.map_nil];(repeat' (first|(with_reducible refine WL.fin ?_;apply hK';clear hK' K')|(with_reducible refine WD.fin ?_)|((with_reducible first|refine WL.step fun K2 hK2=>?_|refine WD.step fun K2 hK2=>?_);simp only [simprocAttr,implies_true,amz,zb,tys,hfl,f1,f2,f3,f4,i1,mf,hcl];(repeat' with_reducible (first|(apply hK2;clear hK2 K2)|apply And.intro|intro hb)))));all_goals ((try simp only [za,z8,reduceIte,Nat.reduceEqDiff]);(try ((repeat ((fail_if_success apply hK);clear hK K));apply hK;clear hK K)))
  all_goals repeat' (first|refine T.zk fun K hK=>?_|apply T.block|(refine T.reg (by kernel_rfl) fun K' hK'=>?_;simp only [bz];(with_reducible repeat' (first|(apply WL.fin;apply hK';clear hK' K')|(refine WL.step fun K2 hK2=>?_;simp only [simprocAttr,implies_true,amz,zb,tys];repeat' (first|(apply hK2;clear hK2 K2)|apply And.intro|intro hb)))))|apply T.skip|apply T.exit|refine T.zf rfl ?_|refine T.ze rfl ?_|refine T.cond rfl (fun hc=>?_) (fun hc=>?_)|apply T.ret|simp only [za,z8,reduceIte,Nat.reduceEqDiff]|((repeat ((fail_if_success apply hK);clear hK K));apply hK;clear hK K))
  all_goals (refine qf.ret (.inr rfl) Tryd.results13 ?_;simp only [zR,zA,zB,simprocAttr,implies_true,amz,zb,tys,he])
 have f4:decide ((f.code.length:Int)≤s.2)=false:=by simpa using h4
 obtain ⟨n,hn,hn2⟩:=z1k (l:=f.code) (i:=s.2) (by omega) (by omega)
 have mn2:=in_at hn2
 have i2:(0≤s.2)=True:=eq_true (by omega)
 have hp:=z7n st sz n.at' hl
 simp only [lnA,poA] at hp
 have he:qw fs st sz s=if (posN st sz n.at').2.2=0 then (posN st sz n.at').1 else 0:=by simp [qw,hf,hn]
 by_cases h5:(posN st sz n.at').2.2=0
 ·have f5:((posN st sz n.at').2.2 != 0)=false:=by simpa using h5
  rw [if_pos h5] at he
  refine zy.of Tryd.func13 rfl 60 rfl (by decide) (by simp [AV.okB]) ?_
  repeat' (first|refine T.zk fun K hK=>?_|apply T.block|(refine T.reg (by kernel_rfl) fun K' hK'=>?_;simp only [bz];(with_reducible repeat' (first|(apply WL.fin;apply hK';clear hK' K')|(refine WL.step fun K2 hK2=>?_;simp only [simprocAttr,implies_true,amz,zb,tys];repeat' (first|(apply hK2;clear hK2 K2)|apply And.intro|intro hb)))))|apply T.skip|apply T.exit|refine T.zf rfl ?_|refine T.ze rfl ?_|refine T.cond rfl (fun hc=>?_) (fun hc=>?_)|apply T.ret|simp only [za,z8,reduceIte,Nat.reduceEqDiff]|((repeat ((fail_if_success apply hK);clear hK K));apply hK;clear hK K))
  refine T.drw 28 (by kernel_rfl) (by kernel_rfl) fun K' hK'=>?_;simp only [List.map_cons,List.map_nil];(repeat' (first|(with_reducible refine WL.fin ?_;apply hK';clear hK' K')|(with_reducible refine WD.fin ?_)|((with_reducible first|refine WL.step fun K2 hK2=>?_|refine WD.step fun K2 hK2=>?_);simp only [simprocAttr,implies_true,amz,zb,tys,hfl,f1,f2,f3,f4,i1,mf,hcl];(repeat' with_reducible (first|(apply hK2;clear hK2 K2)|apply And.intro|intro hb)))));all_goals ((try simp only [za,z8,reduceIte,Nat.reduceEqDiff]);(try ((repeat ((fail_if_success apply hK);clear hK K));apply hK;clear hK K)))
  all_goals repeat' (first|refine T.zk fun K hK=>?_|apply T.block|(refine T.reg (by kernel_rfl) fun K' hK'=>?_;simp only [bz];(with_reducible repeat' (first|(apply WL.fin;apply hK';clear hK' K')|(refine WL.step fun K2 hK2=>?_;simp only [simprocAttr,implies_true,amz,zb,tys];repeat' (first|(apply hK2;clear hK2 K2)|apply And.intro|intro hb)))))|apply T.skip|apply T.exit|refine T.zf rfl ?_|refine T.ze rfl ?_|refine T.cond rfl (fun hc=>?_) (fun hc=>?_)|apply T.ret|simp only [za,z8,reduceIte,Nat.reduceEqDiff]|((repeat ((fail_if_success apply hK);clear hK K));apply hK;clear hK K))
  refine T.drw 20 (by kernel_rfl) (by kernel_rfl) fun K' hK'=>?_;simp only [List.map_cons,List.map_nil];(repeat' (first|(with_reducible refine WL.fin ?_;apply hK';clear hK' K')|(with_reducible refine WD.fin ?_)|((with_reducible first|refine WL.step fun K2 hK2=>?_|refine WD.step fun K2 hK2=>?_);simp only [simprocAttr,implies_true,amz,zb,tys,hfl,i1,i2,mf,mn2];(repeat' (first|with_reducible (first|(apply hK2;clear hK2 K2)|apply And.intro|intro hb)|((with_reducible first|apply zh|apply zl);case h=>exact CallV.plain (Ent.of Tryd.func33 (by kernel_rfl) rfl) (hp) (by simp [AV.okB])))))));all_goals ((try simp only [za,z8,reduceIte,Nat.reduceEqDiff]);(try ((repeat ((fail_if_success apply hK);clear hK K));apply hK;clear hK K)))
  all_goals repeat' (first|refine T.zk fun K hK=>?_|apply T.block|(refine T.reg (by kernel_rfl) fun K' hK'=>?_;simp only [bz];(with_reducible repeat' (first|(apply WL.fin;apply hK';clear hK' K')|(refine WL.step fun K2 hK2=>?_;simp only [simprocAttr,implies_true,amz,zb,tys,f5];repeat' (first|(apply hK2;clear hK2 K2)|apply And.intro|intro hb)))))|apply T.skip|apply T.exit|refine T.zf rfl ?_|refine T.ze rfl ?_|refine T.cond rfl (fun hc=>?_) (fun hc=>?_)|apply T.ret|simp only [za,z8,reduceIte,Nat.reduceEqDiff]|((repeat ((fail_if_success apply hK);clear hK K));apply hK;clear hK K))
  all_goals (refine qf.ret (.inr rfl) Tryd.results13 ?_;simp only [zR,zA,zB,simprocAttr,implies_true,amz,zb,tys,he])
 ·have f5:((posN st sz n.at').2.2 != 0)=true:=by simpa using h5
  rw [if_neg h5] at he
  refine zy.of Tryd.func13 rfl 60 rfl (by decide) (by simp [AV.okB]) ?_
  repeat' (first|refine T.zk fun K hK=>?_|apply T.block|(refine T.reg (by kernel_rfl) fun K' hK'=>?_;simp only [bz];(with_reducible repeat' (first|(apply WL.fin;apply hK';clear hK' K')|(refine WL.step fun K2 hK2=>?_;simp only [simprocAttr,implies_true,amz,zb,tys];repeat' (first|(apply hK2;clear hK2 K2)|apply And.intro|intro hb)))))|apply T.skip|apply T.exit|refine T.zf rfl ?_|refine T.ze rfl ?_|refine T.cond rfl (fun hc=>?_) (fun hc=>?_)|apply T.ret|simp only [za,z8,reduceIte,Nat.reduceEqDiff]|((repeat ((fail_if_success apply hK);clear hK K));apply hK;clear hK K))
  refine T.drw 28 (by kernel_rfl) (by kernel_rfl) fun K' hK'=>?_;simp only [List.map_cons,List.map_nil];(repeat' (first|(with_reducible refine WL.fin ?_;apply hK';clear hK' K')|(with_reducible refine WD.fin ?_)|((with_reducible first|refine WL.step fun K2 hK2=>?_|refine WD.step fun K2 hK2=>?_);simp only [simprocAttr,implies_true,amz,zb,tys,hfl,f1,f2,f3,f4,i1,mf,hcl];(repeat' with_reducible (first|(apply hK2;clear hK2 K2)|apply And.intro|intro hb)))));all_goals ((try simp only [za,z8,reduceIte,Nat.reduceEqDiff]);(try ((repeat ((fail_if_success apply hK);clear hK K));apply hK;clear hK K)))
  all_goals repeat' (first|refine T.zk fun K hK=>?_|apply T.block|(refine T.reg (by kernel_rfl) fun K' hK'=>?_;simp only [bz];(with_reducible repeat' (first|(apply WL.fin;apply hK';clear hK' K')|(refine WL.step fun K2 hK2=>?_;simp only [simprocAttr,implies_true,amz,zb,tys];repeat' (first|(apply hK2;clear hK2 K2)|apply And.intro|intro hb)))))|apply T.skip|apply T.exit|refine T.zf rfl ?_|refine T.ze rfl ?_|refine T.cond rfl (fun hc=>?_) (fun hc=>?_)|apply T.ret|simp only [za,z8,reduceIte,Nat.reduceEqDiff]|((repeat ((fail_if_success apply hK);clear hK K));apply hK;clear hK K))
  refine T.drw 20 (by kernel_rfl) (by kernel_rfl) fun K' hK'=>?_;simp only [List.map_cons,List.map_nil];(repeat' (first|(with_reducible refine WL.fin ?_;apply hK';clear hK' K')|(with_reducible refine WD.fin ?_)|((with_reducible first|refine WL.step fun K2 hK2=>?_|refine WD.step fun K2 hK2=>?_);simp only [simprocAttr,implies_true,amz,zb,tys,hfl,i1,i2,mf,mn2];(repeat' (first|with_reducible (first|(apply hK2;clear hK2 K2)|apply And.intro|intro hb)|((with_reducible first|apply zh|apply zl);case h=>exact CallV.plain (Ent.of Tryd.func33 (by kernel_rfl) rfl) (hp) (by simp [AV.okB])))))));all_goals ((try simp only [za,z8,reduceIte,Nat.reduceEqDiff]);(try ((repeat ((fail_if_success apply hK);clear hK K));apply hK;clear hK K)))
  all_goals repeat' (first|refine T.zk fun K hK=>?_|apply T.block|(refine T.reg (by kernel_rfl) fun K' hK'=>?_;simp only [bz];(with_reducible repeat' (first|(apply WL.fin;apply hK';clear hK' K')|(refine WL.step fun K2 hK2=>?_;simp only [simprocAttr,implies_true,amz,zb,tys,f5];repeat' (first|(apply hK2;clear hK2 K2)|apply And.intro|intro hb)))))|apply T.skip|apply T.exit|refine T.zf rfl ?_|refine T.ze rfl ?_|refine T.cond rfl (fun hc=>?_) (fun hc=>?_)|apply T.ret|simp only [za,z8,reduceIte,Nat.reduceEqDiff]|((repeat ((fail_if_success apply hK);clear hK K));apply hK;clear hK K))
  all_goals (refine qf.ret (.inr rfl) Tryd.results13 ?_;simp only [zR,zA,zB,simprocAttr,implies_true,amz,zb,tys,he])
theorem z7Q (fs:List Fu) (g y:PV) (mn:Int) (st:List Int) (sz:Int) (s:P2) (hl:st.length≤1000000):zy Tryd.prog 14 [pgA fs g y mn,lnA st sz,p2A s] (.int (qw fs st sz s)):=by
 have hfl:(fs.map fuC).length=fs.length:=by simp
 simp only [pgA,lnA,p2A]
 by_cases h1:s.1<0
 ·have f1:decide (s.1<0)=true:=by simpa using h1
  have he:qw fs st sz s=0:=by simp [qw,z0B h1]
  refine zy.of Tryd.func14 rfl 60 rfl (by decide) (by simp [AV.okB]) ?_
  repeat' (first|refine T.zk fun K hK=>?_|apply T.block|(refine T.reg (by kernel_rfl) fun K' hK'=>?_;simp only [bz];(with_reducible repeat' (first|(apply WL.fin;apply hK';clear hK' K')|(refine WL.step fun K2 hK2=>?_;simp only [simprocAttr,implies_true,amz,zb,tys];repeat' (first|(apply hK2;clear hK2 K2)|apply And.intro|intro hb)))))|apply T.skip|apply T.exit|refine T.zf rfl ?_|refine T.ze rfl ?_|refine T.cond rfl (fun hc=>?_) (fun hc=>?_)|apply T.ret|simp only [za,z8,reduceIte,Nat.reduceEqDiff]|((repeat ((fail_if_success apply hK);clear hK K));apply hK;clear hK K))
  refine T.drw 28 (by kernel_rfl) (by kernel_rfl) fun K' hK'=>?_;simp only [List.map_cons,List.map_nil];(repeat' (first|(with_reducible refine WL.fin ?_;apply hK';clear hK' K')|(with_reducible refine WD.fin ?_)|((with_reducible first|refine WL.step fun K2 hK2=>?_|refine WD.step fun K2 hK2=>?_);simp only [simprocAttr,implies_true,amz,zb,tys,hfl,f1];(repeat' with_reducible (first|(apply hK2;clear hK2 K2)|apply And.intro|intro hb)))));all_goals ((try simp only [za,z8,reduceIte,Nat.reduceEqDiff]);(try ((repeat ((fail_if_success apply hK);clear hK K));apply hK;clear hK K)))
  all_goals repeat' (first|refine T.zk fun K hK=>?_|apply T.block|(refine T.reg (by kernel_rfl) fun K' hK'=>?_;simp only [bz];(with_reducible repeat' (first|(apply WL.fin;apply hK';clear hK' K')|(refine WL.step fun K2 hK2=>?_;simp only [simprocAttr,implies_true,amz,zb,tys];repeat' (first|(apply hK2;clear hK2 K2)|apply And.intro|intro hb)))))|apply T.skip|apply T.exit|refine T.zf rfl ?_|refine T.ze rfl ?_|refine T.cond rfl (fun hc=>?_) (fun hc=>?_)|apply T.ret|simp only [za,z8,reduceIte,Nat.reduceEqDiff]|((repeat ((fail_if_success apply hK);clear hK K));apply hK;clear hK K))
  all_goals (refine qf.ret (.inr rfl) Tryd.results14 ?_;simp only [zR,zA,zB,simprocAttr,implies_true,amz,zb,tys,he])
 have f1:decide (s.1<0)=false:=by simpa using h1
 by_cases h2:(fs.length:Int)≤s.1
 ·have f2:decide ((fs.length:Int)≤s.1)=true:=by simpa using h2
  have he:qw fs st sz s=0:=by simp [qw,z1l h2]
  refine zy.of Tryd.func14 rfl 60 rfl (by decide) (by simp [AV.okB]) ?_
  repeat' (first|refine T.zk fun K hK=>?_|apply T.block|(refine T.reg (by kernel_rfl) fun K' hK'=>?_;simp only [bz];(with_reducible repeat' (first|(apply WL.fin;apply hK';clear hK' K')|(refine WL.step fun K2 hK2=>?_;simp only [simprocAttr,implies_true,amz,zb,tys];repeat' (first|(apply hK2;clear hK2 K2)|apply And.intro|intro hb)))))|apply T.skip|apply T.exit|refine T.zf rfl ?_|refine T.ze rfl ?_|refine T.cond rfl (fun hc=>?_) (fun hc=>?_)|apply T.ret|simp only [za,z8,reduceIte,Nat.reduceEqDiff]|((repeat ((fail_if_success apply hK);clear hK K));apply hK;clear hK K))
  refine T.drw 28 (by kernel_rfl) (by kernel_rfl) fun K' hK'=>?_;simp only [List.map_cons,List.map_nil];(repeat' (first|(with_reducible refine WL.fin ?_;apply hK';clear hK' K')|(with_reducible refine WD.fin ?_)|((with_reducible first|refine WL.step fun K2 hK2=>?_|refine WD.step fun K2 hK2=>?_);simp only [simprocAttr,implies_true,amz,zb,tys,hfl,f1,f2];(repeat' with_reducible (first|(apply hK2;clear hK2 K2)|apply And.intro|intro hb)))));all_goals ((try simp only [za,z8,reduceIte,Nat.reduceEqDiff]);(try ((repeat ((fail_if_success apply hK);clear hK K));apply hK;clear hK K)))
  all_goals repeat' (first|refine T.zk fun K hK=>?_|apply T.block|(refine T.reg (by kernel_rfl) fun K' hK'=>?_;simp only [bz];(with_reducible repeat' (first|(apply WL.fin;apply hK';clear hK' K')|(refine WL.step fun K2 hK2=>?_;simp only [simprocAttr,implies_true,amz,zb,tys];repeat' (first|(apply hK2;clear hK2 K2)|apply And.intro|intro hb)))))|apply T.skip|apply T.exit|refine T.zf rfl ?_|refine T.ze rfl ?_|refine T.cond rfl (fun hc=>?_) (fun hc=>?_)|apply T.ret|simp only [za,z8,reduceIte,Nat.reduceEqDiff]|((repeat ((fail_if_success apply hK);clear hK K));apply hK;clear hK K))
  all_goals (refine qf.ret (.inr rfl) Tryd.results14 ?_;simp only [zR,zA,zB,simprocAttr,implies_true,amz,zb,tys,he])
 have f2:decide ((fs.length:Int)≤s.1)=false:=by simpa using h2
 obtain ⟨f,hf,hf2⟩:=z1k (l:=fs) (i:=s.1) (by omega) (by omega)
 have mf:=z6n hf2
 have i1:(0≤s.1)=True:=eq_true (by omega)
 have hcl:(f.code.map inC5).length=f.code.length:=by simp
 by_cases h3:s.2<0
 ·have f3:decide (s.2<0)=true:=by simpa using h3
  have he:qw fs st sz s=0:=by simp [qw,hf,z0B h3]
  refine zy.of Tryd.func14 rfl 60 rfl (by decide) (by simp [AV.okB]) ?_
  repeat' (first|refine T.zk fun K hK=>?_|apply T.block|(refine T.reg (by kernel_rfl) fun K' hK'=>?_;simp only [bz];(with_reducible repeat' (first|(apply WL.fin;apply hK';clear hK' K')|(refine WL.step fun K2 hK2=>?_;simp only [simprocAttr,implies_true,amz,zb,tys];repeat' (first|(apply hK2;clear hK2 K2)|apply And.intro|intro hb)))))|apply T.skip|apply T.exit|refine T.zf rfl ?_|refine T.ze rfl ?_|refine T.cond rfl (fun hc=>?_) (fun hc=>?_)|apply T.ret|simp only [za,z8,reduceIte,Nat.reduceEqDiff]|((repeat ((fail_if_success apply hK);clear hK K));apply hK;clear hK K))
  refine T.drw 28 (by kernel_rfl) (by kernel_rfl) fun K' hK'=>?_;simp only [List.map_cons,List.map_nil];(repeat' (first|(with_reducible refine WL.fin ?_;apply hK';clear hK' K')|(with_reducible refine WD.fin ?_)|((with_reducible first|refine WL.step fun K2 hK2=>?_|refine WD.step fun K2 hK2=>?_);simp only [simprocAttr,implies_true,amz,zb,tys,hfl,f1,f2,f3];(repeat' with_reducible (first|(apply hK2;clear hK2 K2)|apply And.intro|intro hb)))));all_goals ((try simp only [za,z8,reduceIte,Nat.reduceEqDiff]);(try ((repeat ((fail_if_success apply hK);clear hK K));apply hK;clear hK K)))
  all_goals repeat' (first|refine T.zk fun K hK=>?_|apply T.block|(refine T.reg (by kernel_rfl) fun K' hK'=>?_;simp only [bz];(with_reducible repeat' (first|(apply WL.fin;apply hK';clear hK' K')|(refine WL.step fun K2 hK2=>?_;simp only [simprocAttr,implies_true,amz,zb,tys];repeat' (first|(apply hK2;clear hK2 K2)|apply And.intro|intro hb)))))|apply T.skip|apply T.exit|refine T.zf rfl ?_|refine T.ze rfl ?_|refine T.cond rfl (fun hc=>?_) (fun hc=>?_)|apply T.ret|simp only [za,z8,reduceIte,Nat.reduceEqDiff]|((repeat ((fail_if_success apply hK);clear hK K));apply hK;clear hK K))
  all_goals (refine qf.ret (.inr rfl) Tryd.results14 ?_;simp only [zR,zA,zB,simprocAttr,implies_true,amz,zb,tys,he])
 have f3:decide (s.2<0)=false:=by simpa using h3
 by_cases h4:(f.code.length:Int)≤s.2
 ·have f4:decide ((f.code.length:Int)≤s.2)=true:=by simpa using h4
  have he:qw fs st sz s=0:=by simp [qw,hf,z1l h4]
  refine zy.of Tryd.func14 rfl 60 rfl (by decide) (by simp [AV.okB]) ?_
  repeat' (first|refine T.zk fun K hK=>?_|apply T.block|(refine T.reg (by kernel_rfl) fun K' hK'=>?_;simp only [bz];(with_reducible repeat' (first|(apply WL.fin;apply hK';clear hK' K')|(refine WL.step fun K2 hK2=>?_;simp only [simprocAttr,implies_true,amz,zb,tys];repeat' (first|(apply hK2;clear hK2 K2)|apply And.intro|intro hb)))))|apply T.skip|apply T.exit|refine T.zf rfl ?_|refine T.ze rfl ?_|refine T.cond rfl (fun hc=>?_) (fun hc=>?_)|apply T.ret|simp only [za,z8,reduceIte,Nat.reduceEqDiff]|((repeat ((fail_if_success apply hK);clear hK K));apply hK;clear hK K))
  refine T.drw 28 (by kernel_rfl) (by kernel_rfl) fun K' hK'=>?_;simp only [List.map_cons,List.map_nil];(repeat' (first|(with_reducible refine WL.fin ?_;apply hK';clear hK' K')|(with_reducible refine WD.fin ?_)|((with_reducible first|refine WL.step fun K2 hK2=>?_|refine WD.step fun K2 hK2=>?_);simp only [simprocAttr,implies_true,amz,zb,tys,hfl,f1,f2,f3,f4,i1,mf,hcl];(repeat' with_reducible (first|(apply hK2;clear hK2 K2)|apply And.intro|intro hb)))));all_goals ((try simp only [za,z8,reduceIte,Nat.reduceEqDiff]);(try ((repeat ((fail_if_success apply hK);clear hK K));apply hK;clear hK K)))
  all_goals repeat' (first|refine T.zk fun K hK=>?_|apply T.block|(refine T.reg (by kernel_rfl) fun K' hK'=>?_;simp only [bz];(with_reducible repeat' (first|(apply WL.fin;apply hK';clear hK' K')|(refine WL.step fun K2 hK2=>?_;simp only [simprocAttr,implies_true,amz,zb,tys];repeat' (first|(apply hK2;clear hK2 K2)|apply And.intro|intro hb)))))|apply T.skip|apply T.exit|refine T.zf rfl ?_|refine T.ze rfl ?_|refine T.cond rfl (fun hc=>?_) (fun hc=>?_)|apply T.ret|simp only [za,z8,reduceIte,Nat.reduceEqDiff]|((repeat ((fail_if_success apply hK);clear hK K));apply hK;clear hK K))
  all_goals (refine qf.ret (.inr rfl) Tryd.results14 ?_;simp only [zR,zA,zB,simprocAttr,implies_true,amz,zb,tys,he])
 have f4:decide ((f.code.length:Int)≤s.2)=false:=by simpa using h4
 obtain ⟨n,hn,hn2⟩:=z1k (l:=f.code) (i:=s.2) (by omega) (by omega)
 have mn2:=in_at hn2
 have i2:(0≤s.2)=True:=eq_true (by omega)
 have hp:=z6D st sz n.at' hl
 simp only [lnA,poA] at hp
 have he:qw fs st sz s=if (posN st sz n.at').2.2=0 then (posN st sz n.at').1 else 0:=by simp [qw,hf,hn]
 by_cases h5:(posN st sz n.at').2.2=0
 ·have f5:((posN st sz n.at').2.2 != 0)=false:=by simpa using h5
  rw [if_pos h5] at he
  refine zy.of Tryd.func14 rfl 60 rfl (by decide) (by simp [AV.okB]) ?_
  repeat' (first|refine T.zk fun K hK=>?_|apply T.block|(refine T.reg (by kernel_rfl) fun K' hK'=>?_;simp only [bz];(with_reducible repeat' (first|(apply WL.fin;apply hK';clear hK' K')|(refine WL.step fun K2 hK2=>?_;simp only [simprocAttr,implies_true,amz,zb,tys];repeat' (first|(apply hK2;clear hK2 K2)|apply And.intro|intro hb)))))|apply T.skip|apply T.exit|refine T.zf rfl ?_|refine T.ze rfl ?_|refine T.cond rfl (fun hc=>?_) (fun hc=>?_)|apply T.ret|simp only [za,z8,reduceIte,Nat.reduceEqDiff]|((repeat ((fail_if_success apply hK);clear hK K));apply hK;clear hK K))
  refine T.drw 28 (by kernel_rfl) (by kernel_rfl) fun K' hK'=>?_;simp only [List.map_cons,List.map_nil];(repeat' (first|(with_reducible refine WL.fin ?_;apply hK';clear hK' K')|(with_reducible refine WD.fin ?_)|((with_reducible first|refine WL.step fun K2 hK2=>?_|refine WD.step fun K2 hK2=>?_);simp only [simprocAttr,implies_true,amz,zb,tys,hfl,f1,f2,f3,f4,i1,mf,hcl];(repeat' with_reducible (first|(apply hK2;clear hK2 K2)|apply And.intro|intro hb)))));all_goals ((try simp only [za,z8,reduceIte,Nat.reduceEqDiff]);(try ((repeat ((fail_if_success apply hK);clear hK K));apply hK;clear hK K)))
  all_goals repeat' (first|refine T.zk fun K hK=>?_|apply T.block|(refine T.reg (by kernel_rfl) fun K' hK'=>?_;simp only [bz];(with_reducible repeat' (first|(apply WL.fin;apply hK';clear hK' K')|(refine WL.step fun K2 hK2=>?_;simp only [simprocAttr,implies_true,amz,zb,tys];repeat' (first|(apply hK2;clear hK2 K2)|apply And.intro|intro hb)))))|apply T.skip|apply T.exit|refine T.zf rfl ?_|refine T.ze rfl ?_|refine T.cond rfl (fun hc=>?_) (fun hc=>?_)|apply T.ret|simp only [za,z8,reduceIte,Nat.reduceEqDiff]|((repeat ((fail_if_success apply hK);clear hK K));apply hK;clear hK K))
  refine T.drw 20 (by kernel_rfl) (by kernel_rfl) fun K' hK'=>?_;simp only [List.map_cons,List.map_nil];(repeat' (first|(with_reducible refine WL.fin ?_;apply hK';clear hK' K')|(with_reducible refine WD.fin ?_)|((with_reducible first|refine WL.step fun K2 hK2=>?_|refine WD.step fun K2 hK2=>?_);simp only [simprocAttr,implies_true,amz,zb,tys,hfl,i1,i2,mf,mn2];(repeat' (first|with_reducible (first|(apply hK2;clear hK2 K2)|apply And.intro|intro hb)|((with_reducible first|apply zh|apply zl);case h=>exact CallV.plain (Ent.of Tryd.func34 (by kernel_rfl) rfl) (hp) (by simp [AV.okB])))))));all_goals ((try simp only [za,z8,reduceIte,Nat.reduceEqDiff]);(try ((repeat ((fail_if_success apply hK);clear hK K));apply hK;clear hK K)))
  all_goals repeat' (first|refine T.zk fun K hK=>?_|apply T.block|(refine T.reg (by kernel_rfl) fun K' hK'=>?_;simp only [bz];(with_reducible repeat' (first|(apply WL.fin;apply hK';clear hK' K')|(refine WL.step fun K2 hK2=>?_;simp only [simprocAttr,implies_true,amz,zb,tys,f5];repeat' (first|(apply hK2;clear hK2 K2)|apply And.intro|intro hb)))))|apply T.skip|apply T.exit|refine T.zf rfl ?_|refine T.ze rfl ?_|refine T.cond rfl (fun hc=>?_) (fun hc=>?_)|apply T.ret|simp only [za,z8,reduceIte,Nat.reduceEqDiff]|((repeat ((fail_if_success apply hK);clear hK K));apply hK;clear hK K))
  all_goals (refine qf.ret (.inr rfl) Tryd.results14 ?_;simp only [zR,zA,zB,simprocAttr,implies_true,amz,zb,tys,he])
 ·have f5:((posN st sz n.at').2.2 != 0)=true:=by simpa using h5
  rw [if_neg h5] at he
  refine zy.of Tryd.func14 rfl 60 rfl (by decide) (by simp [AV.okB]) ?_
  repeat' (first|refine T.zk fun K hK=>?_|apply T.block|(refine T.reg (by kernel_rfl) fun K' hK'=>?_;simp only [bz];(with_reducible repeat' (first|(apply WL.fin;apply hK';clear hK' K')|(refine WL.step fun K2 hK2=>?_;simp only [simprocAttr,implies_true,amz,zb,tys];repeat' (first|(apply hK2;clear hK2 K2)|apply And.intro|intro hb)))))|apply T.skip|apply T.exit|refine T.zf rfl ?_|refine T.ze rfl ?_|refine T.cond rfl (fun hc=>?_) (fun hc=>?_)|apply T.ret|simp only [za,z8,reduceIte,Nat.reduceEqDiff]|((repeat ((fail_if_success apply hK);clear hK K));apply hK;clear hK K))
  refine T.drw 28 (by kernel_rfl) (by kernel_rfl) fun K' hK'=>?_;simp only [List.map_cons,List.map_nil];(repeat' (first|(with_reducible refine WL.fin ?_;apply hK';clear hK' K')|(with_reducible refine WD.fin ?_)|((with_reducible first|refine WL.step fun K2 hK2=>?_|refine WD.step fun K2 hK2=>?_);simp only [simprocAttr,implies_true,amz,zb,tys,hfl,f1,f2,f3,f4,i1,mf,hcl];(repeat' with_reducible (first|(apply hK2;clear hK2 K2)|apply And.intro|intro hb)))));all_goals ((try simp only [za,z8,reduceIte,Nat.reduceEqDiff]);(try ((repeat ((fail_if_success apply hK);clear hK K));apply hK;clear hK K)))
  all_goals repeat' (first|refine T.zk fun K hK=>?_|apply T.block|(refine T.reg (by kernel_rfl) fun K' hK'=>?_;simp only [bz];(with_reducible repeat' (first|(apply WL.fin;apply hK';clear hK' K')|(refine WL.step fun K2 hK2=>?_;simp only [simprocAttr,implies_true,amz,zb,tys];repeat' (first|(apply hK2;clear hK2 K2)|apply And.intro|intro hb)))))|apply T.skip|apply T.exit|refine T.zf rfl ?_|refine T.ze rfl ?_|refine T.cond rfl (fun hc=>?_) (fun hc=>?_)|apply T.ret|simp only [za,z8,reduceIte,Nat.reduceEqDiff]|((repeat ((fail_if_success apply hK);clear hK K));apply hK;clear hK K))
  refine T.drw 20 (by kernel_rfl) (by kernel_rfl) fun K' hK'=>?_;simp only [List.map_cons,List.map_nil];(repeat' (first|(with_reducible refine WL.fin ?_;apply hK';clear hK' K')|(with_reducible refine WD.fin ?_)|((with_reducible first|refine WL.step fun K2 hK2=>?_|refine WD.step fun K2 hK2=>?_);simp only [simprocAttr,implies_true,amz,zb,tys,hfl,i1,i2,mf,mn2];(repeat' (first|with_reducible (first|(apply hK2;clear hK2 K2)|apply And.intro|intro hb)|((with_reducible first|apply zh|apply zl);case h=>exact CallV.plain (Ent.of Tryd.func34 (by kernel_rfl) rfl) (hp) (by simp [AV.okB])))))));all_goals ((try simp only [za,z8,reduceIte,Nat.reduceEqDiff]);(try ((repeat ((fail_if_success apply hK);clear hK K));apply hK;clear hK K)))
  all_goals repeat' (first|refine T.zk fun K hK=>?_|apply T.block|(refine T.reg (by kernel_rfl) fun K' hK'=>?_;simp only [bz];(with_reducible repeat' (first|(apply WL.fin;apply hK';clear hK' K')|(refine WL.step fun K2 hK2=>?_;simp only [simprocAttr,implies_true,amz,zb,tys,f5];repeat' (first|(apply hK2;clear hK2 K2)|apply And.intro|intro hb)))))|apply T.skip|apply T.exit|refine T.zf rfl ?_|refine T.ze rfl ?_|refine T.cond rfl (fun hc=>?_) (fun hc=>?_)|apply T.ret|simp only [za,z8,reduceIte,Nat.reduceEqDiff]|((repeat ((fail_if_success apply hK);clear hK K));apply hK;clear hK K))
  all_goals (refine qf.ret (.inr rfl) Tryd.results14 ?_;simp only [zR,zA,zB,simprocAttr,implies_true,amz,zb,tys,he])
abbrev AV.str (b:ByteArray):AV := .p (.val (.string b))
def D10 (u:Nat):ByteArray:=⟨(Go.Lib.decDigits u).toArray⟩
theorem z3G (u:Nat):(D10 u).data.toList=Go.Lib.decDigits u:=rfl
theorem D10_size (u:Nat):(D10 u).size=Go.Lib.nDigits u:=by simp [D10,ByteArray.size,Go.Lib.decDigits_length]
theorem D10_le (u:Nat) (h:u<18446744073709551616):(D10 u).size≤20:=by rw [D10_size];exact Go.Lib.nDigits_le20 u h
theorem z3y {a b:ByteArray} (h:a.data.toList=b.data.toList):a=b:=by
 cases a;cases b
 simp only at h
 rw [ByteArray.mk.injEq]
 exact Array.toList_inj.1 h
theorem z0G (a b:ByteArray):(a++b).data.toList=a.data.toList++b.data.toList:=by
 rw [ByteArray.data_append,Array.toList_append]
theorem z7D (c:Int):(chrB c).data.toList = [UInt8.ofNat c.toNat]:=rfl
theorem z2r (c:Int):(chrB c).size=1:=rfl
theorem D10_big {u:Nat} (h : ¬ u<10) (t:ByteArray):D10 u++t=D10 (u / 10)++(chrB ((48+u % 10:Nat):Int)++t):=by
 apply z3y
 rw [z0G,z0G,z0G,z3G,z3G,z7D,Go.Lib.decDigits,dif_neg h,List.append_assoc,Int.toNat_natCast]
theorem z6a {u:Nat} (h:u<10) (t:ByteArray):D10 u++t=chrB ((48+u:Nat):Int)++t:=by
 apply z3y
 rw [z0G,z0G,z3G,z7D,Go.Lib.decDigits,dif_pos h,Int.toNat_natCast]
theorem app_nil (a:ByteArray):a++⟨#[]⟩=a:=by
 apply z3y
 rw [z0G];simp
theorem w_u8 {n:Nat} (h:n<256):IntKind.u8.wrap (n:Int)=n:=by
 simp only [IntKind.wrap,IntKind.bits,IntKind.signed,Bool.false_and,Bool.false_eq_true,if_false]
 omega
theorem z8N {n:Nat} (h:n<18446744073709551616):IntKind.u64.wrap (n:Int)=n:=by
 simp only [IntKind.wrap,IntKind.bits,IntKind.signed,Bool.false_and,Bool.false_eq_true,if_false]
 omega
theorem tmod10 (k:Nat):Int.tmod (k:Int) 10=((k % 10:Nat):Int):=by
 rw [Int.tmod_eq_emod_of_nonneg (by omega)];rfl
theorem tdiv10 (k:Nat):Int.tdiv (k:Int) 10=((k / 10:Nat):Int):=by
 rw [Int.tdiv_eq_ediv_of_nonneg (by omega)];rfl
theorem add48 (k:Nat):(48:Int)+(k:Int)=((48+k:Nat):Int):=by omega
def dI (x:Int):ByteArray:=⟨(Go.Lib.itoa x).toArray⟩
theorem dI_pos {x:Int} (h : 0≤x):dI x=D10 x.toNat:=by
 unfold dI Go.Lib.itoa D10
 rw [if_neg (by omega)]
theorem dI_neg {x:Int} (h:x<0):dI x=⟨#[45]⟩++D10 x.natAbs:=by
 apply z3y
 rw [z0G]
 unfold dI Go.Lib.itoa D10
 rw [if_pos h]
 rfl
theorem z2A {x:Int} (h0 : -9223372036854775808≤x) (h1:x<9223372036854775808):(dI x).size≤21:=by
 by_cases h:x<0
 ·rw [dI_neg h,ByteArray.size_append]
  have:=D10_le x.natAbs (by omega)
  have e:(⟨#[45]⟩ : ByteArray).size=1:=rfl
  omega
 ·rw [dI_pos (by omega)]
  have:=D10_le x.toNat (by omega)
  omega
theorem z4P (x:Int) (h0 : -9223372036854775808≤x) (h1:x<9223372036854775808):zy Tryd.prog 40 [.int x] (.str (dI x)):=by
 obtain ⟨n,hn,hnx⟩ : ∃ n:Nat,n<18446744073709551616∧n=x.natAbs:=⟨x.natAbs,by omega,rfl⟩
 have hn20:Go.Lib.nDigits n≤20:=Go.Lib.nDigits_le20 n (by omega)
 by_cases hx:x<0
 ·have hu:IntKind.u64.wrap x=x+18446744073709551616:=by
   simp only [IntKind.wrap,IntKind.bits,IntKind.signed]
   simp
   omega
  have hu2:IntKind.u64.wrap (0-(x+18446744073709551616))=(n:Int):=by
   simp only [IntKind.wrap,IntKind.bits,IntKind.signed]
   simp
   omega
  have hneg:decide (x<0)=true:=by simpa using hx
  have hfin:dI x=⟨#[45]⟩++D10 n:=by rw [dI_neg hx,hnx]
  refine zy.of Tryd.func40 rfl 35 rfl (by decide) (by simp [AV.okB]) ?_
  repeat' (first|refine T.zk fun K hK=>?_|apply T.block|(refine T.reg (by kernel_rfl) fun K' hK'=>?_;simp only [bz];(with_reducible repeat' (first|(apply WL.fin;apply hK';clear hK' K')|(refine WL.step fun K2 hK2=>?_;simp only [simprocAttr,implies_true,amz,zb,tys,Option.isSome_some,hu,hu2,hneg];repeat' (first|(apply hK2;clear hK2 K2)|apply And.intro|intro hb)))))|apply T.skip|apply T.exit|refine T.zf rfl ?_|refine T.ze rfl ?_|refine T.cond rfl (fun hc=>?_) (fun hc=>?_)|apply T.ret|simp only [za,z8,reduceIte,Nat.reduceEqDiff]|((repeat ((fail_if_success apply hK);clear hK K));apply hK;clear hK K))
  refine T.z0o (fun p:Nat × ByteArray=>⟨[(0,.int x),(2,.str ⟨#[]⟩),(3,.p (.val (.int .u64 (p.1:Int)))),(4,.str p.2)],[],35,0⟩) (fun p=>D10 n=D10 p.1++p.2∧p.2.size+Go.Lib.nDigits p.1≤20∧p.1≤n) (fun p=>p.1) (n,⟨#[]⟩) ⟨(app_nil _).symm,by show 0+Go.Lib.nDigits n≤20;omega,Nat.le_refl _⟩ (by refine zi.of' rfl ?_;simp only [wks,reduceIte,Nat.reduceEqDiff,ASt.okB,AV.okB,Nat.reduceLT,implies_true,]) ?_
  rintro ⟨k,t⟩ ⟨h1',h2,h3⟩ KL hKL
  simp only at h1' h2 h3
  have e0:=tmod10 k
  have e1:=tdiv10 k
  have hsz : ∀ c,((chrB c).size+t.size≤9223372036854775807)=True:=fun c=>by
   rw [z2r]
   exact eq_true (by omega)
  by_cases hk:k<10
  ·have hd:decide ((10:Int)≤(k:Int))=false:=by simp;omega
   have e2:=z8N (show 48+k<18446744073709551616 by omega)
   have e3:=w_u8 (show 48+k<256 by omega)
   have h4:=h1'.trans (z6a hk t)
   have hl1:(⟨#[45]⟩ : ByteArray).size=1:=rfl
   have hlc:((⟨#[45]⟩ : ByteArray).size+(chrB ((48+k:Nat):Int)++t).size≤9223372036854775807)=True:=eq_true (by rw [ByteArray.size_append,z2r];omega)
   repeat' (first|refine T.zk fun K hK=>?_|apply T.block|(refine T.reg (by kernel_rfl) fun K' hK'=>?_;simp only [bz];(with_reducible repeat' (first|(apply WL.fin;apply hK';clear hK' K')|(refine WL.step fun K2 hK2=>?_;simp only [simprocAttr,implies_true,amz,zb,tys,Option.isSome_some,ml_1,hd,hneg,add48,e2,e3,hsz,hlc];repeat' (first|(apply hK2;clear hK2 K2)|apply And.intro|intro hb)))))|apply T.skip|apply T.exit|refine T.zf rfl ?_|refine T.ze rfl ?_|refine T.cond rfl (fun hc=>?_) (fun hc=>?_)|apply T.ret|simp only [za,z8,reduceIte,Nat.reduceEqDiff]|((repeat ((fail_if_success apply hK);clear hK K));apply hK;clear hK K))
   all_goals (refine qf.ret (.inr rfl) Tryd.results40 ?_;simp only [zR,zA,zB,simprocAttr,implies_true,amz,zb,tys,hfin,h4])
  ·have hd:decide ((10:Int)≤(k:Int))=true:=by simp;omega
   have e2:=z8N (show 48+k % 10<18446744073709551616 by omega)
   have e3:=w_u8 (show 48+k % 10<256 by omega)
   have e4:=z8N (show k / 10<18446744073709551616 by omega)
   have hnd:=Go.Lib.nDigits_big hk
   repeat' (first|refine T.zk fun K hK=>?_|apply T.block|(refine T.reg (by kernel_rfl) fun K' hK'=>?_;simp only [bz];(with_reducible repeat' (first|(apply WL.fin;apply hK';clear hK' K')|(refine WL.step fun K2 hK2=>?_;simp only [simprocAttr,implies_true,amz,zb,tys,Option.isSome_some,ml_1,hd,e0,e1,add48,e2,e3,e4,hsz];repeat' (first|(apply hK2;clear hK2 K2)|apply And.intro|intro hb)))))|apply T.skip|apply T.exit|refine T.zf rfl ?_|refine T.ze rfl ?_|refine T.cond rfl (fun hc=>?_) (fun hc=>?_)|apply T.ret|simp only [za,z8,reduceIte,Nat.reduceEqDiff]|((repeat ((fail_if_success apply hK);clear hK K));apply hK;clear hK K))
   refine hKL _ (k / 10,chrB ((48+k % 10:Nat):Int)++t) ?_ ⟨by rw [h1',D10_big hk],?_,by simp only;omega⟩ (by simp only;omega)
   ·refine zi.of' rfl ?_;simp only [wks,reduceIte,Nat.reduceEqDiff,ASt.okB,AV.okB,Nat.reduceLT,implies_true,]
   ·simp only
    rw [ByteArray.size_append,z2r]
    omega
 ·have hu:IntKind.u64.wrap x=(n:Int):=by
   simp only [IntKind.wrap,IntKind.bits,IntKind.signed]
   simp
   omega
  have hu2:=hu
  have hneg:decide (x<0)=false:=by simpa using hx
  have hfin:dI x=D10 n:=by rw [dI_pos (by omega),hnx];congr 1;omega
  refine zy.of Tryd.func40 rfl 35 rfl (by decide) (by simp [AV.okB]) ?_
  repeat' (first|refine T.zk fun K hK=>?_|apply T.block|(refine T.reg (by kernel_rfl) fun K' hK'=>?_;simp only [bz];(with_reducible repeat' (first|(apply WL.fin;apply hK';clear hK' K')|(refine WL.step fun K2 hK2=>?_;simp only [simprocAttr,implies_true,amz,zb,tys,Option.isSome_some,hu,hu2,hneg];repeat' (first|(apply hK2;clear hK2 K2)|apply And.intro|intro hb)))))|apply T.skip|apply T.exit|refine T.zf rfl ?_|refine T.ze rfl ?_|refine T.cond rfl (fun hc=>?_) (fun hc=>?_)|apply T.ret|simp only [za,z8,reduceIte,Nat.reduceEqDiff]|((repeat ((fail_if_success apply hK);clear hK K));apply hK;clear hK K))
  refine T.z0o (fun p:Nat × ByteArray=>⟨[(0,.int x),(2,.str ⟨#[]⟩),(3,.p (.val (.int .u64 (p.1:Int)))),(4,.str p.2)],[],35,0⟩) (fun p=>D10 n=D10 p.1++p.2∧p.2.size+Go.Lib.nDigits p.1≤20∧p.1≤n) (fun p=>p.1) (n,⟨#[]⟩) ⟨(app_nil _).symm,by show 0+Go.Lib.nDigits n≤20;omega,Nat.le_refl _⟩ (by refine zi.of' rfl ?_;simp only [wks,reduceIte,Nat.reduceEqDiff,ASt.okB,AV.okB,Nat.reduceLT,implies_true,]) ?_
  rintro ⟨k,t⟩ ⟨h1',h2,h3⟩ KL hKL
  simp only at h1' h2 h3
  have e0:=tmod10 k
  have e1:=tdiv10 k
  have hsz : ∀ c,((chrB c).size+t.size≤9223372036854775807)=True:=fun c=>by
   rw [z2r]
   exact eq_true (by omega)
  by_cases hk:k<10
  ·have hd:decide ((10:Int)≤(k:Int))=false:=by simp;omega
   have e2:=z8N (show 48+k<18446744073709551616 by omega)
   have e3:=w_u8 (show 48+k<256 by omega)
   have h4:=h1'.trans (z6a hk t)
   have hl1:(⟨#[45]⟩ : ByteArray).size=1:=rfl
   have hlc:((⟨#[45]⟩ : ByteArray).size+(chrB ((48+k:Nat):Int)++t).size≤9223372036854775807)=True:=eq_true (by rw [ByteArray.size_append,z2r];omega)
   repeat' (first|refine T.zk fun K hK=>?_|apply T.block|(refine T.reg (by kernel_rfl) fun K' hK'=>?_;simp only [bz];(with_reducible repeat' (first|(apply WL.fin;apply hK';clear hK' K')|(refine WL.step fun K2 hK2=>?_;simp only [simprocAttr,implies_true,amz,zb,tys,Option.isSome_some,ml_1,hd,hneg,add48,e2,e3,hsz,hlc];repeat' (first|(apply hK2;clear hK2 K2)|apply And.intro|intro hb)))))|apply T.skip|apply T.exit|refine T.zf rfl ?_|refine T.ze rfl ?_|refine T.cond rfl (fun hc=>?_) (fun hc=>?_)|apply T.ret|simp only [za,z8,reduceIte,Nat.reduceEqDiff]|((repeat ((fail_if_success apply hK);clear hK K));apply hK;clear hK K))
   all_goals (refine qf.ret (.inr rfl) Tryd.results40 ?_;simp only [zR,zA,zB,simprocAttr,implies_true,amz,zb,tys,hfin,h4])
  ·have hd:decide ((10:Int)≤(k:Int))=true:=by simp;omega
   have e2:=z8N (show 48+k % 10<18446744073709551616 by omega)
   have e3:=w_u8 (show 48+k % 10<256 by omega)
   have e4:=z8N (show k / 10<18446744073709551616 by omega)
   have hnd:=Go.Lib.nDigits_big hk
   repeat' (first|refine T.zk fun K hK=>?_|apply T.block|(refine T.reg (by kernel_rfl) fun K' hK'=>?_;simp only [bz];(with_reducible repeat' (first|(apply WL.fin;apply hK';clear hK' K')|(refine WL.step fun K2 hK2=>?_;simp only [simprocAttr,implies_true,amz,zb,tys,Option.isSome_some,ml_1,hd,e0,e1,add48,e2,e3,e4,hsz];repeat' (first|(apply hK2;clear hK2 K2)|apply And.intro|intro hb)))))|apply T.skip|apply T.exit|refine T.zf rfl ?_|refine T.ze rfl ?_|refine T.cond rfl (fun hc=>?_) (fun hc=>?_)|apply T.ret|simp only [za,z8,reduceIte,Nat.reduceEqDiff]|((repeat ((fail_if_success apply hK);clear hK K));apply hK;clear hK K))
   refine hKL _ (k / 10,chrB ((48+k % 10:Nat):Int)++t) ?_ ⟨by rw [h1',D10_big hk],?_,by simp only;omega⟩ (by simp only;omega)
   ·refine zi.of' rfl ?_;simp only [wks,reduceIte,Nat.reduceEqDiff,ASt.okB,AV.okB,Nat.reduceLT,implies_true,]
   ·simp only
    rw [ByteArray.size_append,z2r]
    omega
def nmN (fs:List Fu) (s:P2):ByteArray:=match getZ fs s.1 with
 | some f=>f.name
 | none=>⟨#[63]⟩
def z7s (k:Int):ByteArray:=if k=1 then ⟨#[114,101,97,100]⟩ else if k=2 then ⟨#[119,114,105,116,101]⟩ else ⟨#[63]⟩
def entN (fs:List Fu) (st:List Int) (sz:Int) (s:P2):ByteArray:=(((⟨#[32,32,32,32]⟩++nmN fs s)++⟨#[58]⟩)++dI (qw fs st sz s))++⟨#[10]⟩
def hdN (k:Int):ByteArray:=(⟨#[32,32]⟩++z7s k)++⟨#[10]⟩
def putN (fs:List Fu) (st:List Int) (sz:Int) (l:List P2) (b:ByteArray):ByteArray:=l.foldl (fun b s=>b++entN fs st sz s) b
def accN (fs:List Fu) (st:List Int) (sz:Int) (k:Int) (l:List P2):ByteArray:=putN fs st sz l.reverse (hdN k)
def hedN (r:Rep):ByteArray:=(((((⟨#[114,97,99,101,32]⟩++dI r.obj)++⟨#[46]⟩)++dI r.off)++⟨#[32]⟩)++dI r.cnt)++⟨#[10]⟩
def txtN (fs:List Fu) (st:List Int) (sz:Int) (r:Rep):ByteArray:=(hedN r++accN fs st sz r.k1 r.s1)++accN fs st sz r.k2 r.s2
theorem z3H (a b c:ByteArray):(a++b)++c=a++(b++c):=by apply z3y;rw [z0G,z0G,z0G,z0G,List.append_assoc]
def NmOk (fs:List Fu):Prop := ∀ f ∈ fs,f.name.size≤1048576
theorem z4u {fs:List Fu} (h:NmOk fs) (s:P2):(nmN fs s).size≤1048576:=by
 unfold nmN getZ
 split
 ·rename_i f hf
  split at hf
  ·cases hf
  ·exact h f (List.mem_of_getElem? hf)
 ·show 1≤_;omega
theorem z0y (fs:List Fu) (st:List Int) (sz:Int) (s:P2) (hl:st.length≤1000000) : 0≤qw fs st sz s∧qw fs st sz s≤1000000:=by
 unfold qw
 split
 ·omega
 ·split
  ·omega
  ·split
   ·unfold posN
    split
    ·simp only [];omega
    ·split
     ·simp only [];omega
     ·simp only []
      rename_i i _ _ _ _
      have:=z6T st i.at'
      omega
   ·omega
theorem z7G {fs:List Fu} (h:NmOk fs) (st:List Int) (sz:Int) (s:P2) (hl:st.length≤1000000):(entN fs st sz s).size≤1048700:=by
 have h1:=z4u h s
 obtain ⟨h2,h3⟩:=z0y fs st sz s hl
 have h4:=z2A (x:=qw fs st sz s) (by omega) (by omega)
 unfold entN
 rw [ByteArray.size_append,ByteArray.size_append,ByteArray.size_append,ByteArray.size_append]
 have e1:(⟨#[32,32,32,32]⟩ : ByteArray).size=4:=rfl
 have e2:(⟨#[58]⟩ : ByteArray).size=1:=rfl
 have e3:(⟨#[10]⟩ : ByteArray).size=1:=rfl
 omega
theorem z4Y {fs:List Fu} (h:NmOk fs) (st:List Int) (sz:Int) (hl:st.length≤1000000) : ∀ (l:List P2) (b:ByteArray),(putN fs st sz l b).size≤b.size+l.length*1048700
 | [],b=>by simp [putN]
 | s :: r,b=>by
  have h1:=z4Y h st sz hl r (b++entN fs st sz s)
  have h2:=z7G h st sz s hl
  rw [ByteArray.size_append] at h1
  show (putN fs st sz r (b++entN fs st sz s)).size≤_
  rw [List.length_cons,Nat.add_mul]
  omega
theorem z7d (k:Int):(hdN k).size≤20:=by
 unfold hdN z7s
 split
 ·decide
 ·split <;> decide
theorem acc_le {fs:List Fu} (h:NmOk fs) (st:List Int) (sz:Int) (hl:st.length≤1000000) (k:Int) (l:List P2):(accN fs st sz k l).size≤20+l.length*1048700:=by
 have h1:=z4Y h st sz hl l.reverse (hdN k)
 have h2:=z7d k
 rw [List.length_reverse] at h1
 unfold accN
 omega
theorem z5F (fs:List Fu) (st:List Int) (sz:Int) (a b:List P2) (x:ByteArray):putN fs st sz (a++b) x=putN fs st sz b (putN fs st sz a x):=by simp [putN]
theorem put_out (fs:List Fu) (st:List Int) (sz:Int) : ∀ (l:List P2) (x y:ByteArray),putN fs st sz l (x++y)=x++putN fs st sz l y
 | [],x,y=>rfl
 | s :: r,x,y=>by
  show putN fs st sz r ((x++y)++entN fs st sz s)=x++putN fs st sz r (y++entN fs st sz s)
  rw [z3H,put_out fs st sz r]
theorem z3S {l:List P2} {q:Nat} {s:P2} (h:l[q]? = some s):(l.drop q).reverse=(l.drop (q+1)).reverse ++ [s]:=by
 rw [drop_at h,List.reverse_cons]
structure RepW (r:Rep):Prop where
 obj : -9223372036854775808≤r.obj∧r.obj<9223372036854775808
 off : -9223372036854775808≤r.off∧r.off<9223372036854775808
 cnt : -9223372036854775808≤r.cnt∧r.cnt<9223372036854775808
theorem hd1:(⟨#[32,32,114,101,97,100,10]⟩ : ByteArray)=hdN 1:=rfl
theorem hd2:(⟨#[32,32,119,114,105,116,101,10]⟩ : ByteArray)=hdN 2:=rfl
theorem hd3 {k:Int} (h1:k ≠ 1) (h2:k ≠ 2):(⟨#[32,32,63,10]⟩ : ByteArray)=hdN k:=by
 unfold hdN z7s
 rw [if_neg h1,if_neg h2]
 rfl
theorem z6b (fs:List Fu) (g y:PV) (mn:Int) (st:List Int) (sz k:Int) (l:List P2) (hn:NmOk fs) (hl:st.length≤1000000) (hll:l.length≤1000):zy Tryd.prog 41 [pgA fs g y mn,lnA st sz,.int k,.p (.seq 2 (rowP l))] (.str (accN fs st sz k l)):=by
 have hrl:=qO l
 have hfl:(fs.map fuC).length=fs.length:=by simp
 have hln:=fun s=>z7Q fs g y mn st sz s hl
 simp only [pgA,lnA,p2A] at hln ⊢
 have w0:IntKind.i64.wrap ((l.length:Int)-1)=(l.length:Int)-1:=z04 (by omega) (by omega)
 by_cases k1:k=1
 ·subst k1
  have f1:((1:Int)==1)=true:=rfl
  have hh:=hd1
  refine zy.of Tryd.func41 rfl 67 rfl (by decide) (by simp [AV.okB]) ?_
  repeat' (first|refine T.zk fun K hK=>?_|apply T.block|(refine T.reg (by kernel_rfl) fun K' hK'=>?_;simp only [bz];(with_reducible repeat' (first|(apply WL.fin;apply hK';clear hK' K')|(refine WL.step fun K2 hK2=>?_;simp only [simprocAttr,implies_true,amz,zb,tys,hrl,f1,w0];repeat' (first|(apply hK2;clear hK2 K2)|apply And.intro|intro hb)))))|apply T.skip|apply T.exit|refine T.zf rfl ?_|refine T.ze rfl ?_|refine T.cond rfl (fun hc=>?_) (fun hc=>?_)|apply T.ret|simp only [za,z8,reduceIte,Nat.reduceEqDiff]|((repeat ((fail_if_success apply hK);clear hK K));apply hK;clear hK K))
  refine T.z0o (fun q:Nat=>⟨[(3,.p (.seq 2 (rowP l))),(4,.ptr 0 0),(5,.ptr 1 0),(9,.str (putN fs st sz (l.drop q).reverse (hdN 1))),(10,.int ((q:Int)-1))],[(1,.boxP none 48 [.p (.seq 1 (rowZ st)),.int sz]),(0,.boxP none 46 [.p (.seq 4 (fs.map fuC)),.p g,.p y,.int mn])],67,2⟩) (fun q=>q≤l.length) (fun q=>q) l.length (Nat.le_refl _) (by refine zi.of' rfl ?_;simp only [wks,reduceIte,Nat.reduceEqDiff,ASt.okB,AV.okB,Nat.reduceLT,implies_true,List.drop_length,List.reverse_nil,show putN fs st sz [] (hdN 1)=hdN 1 from rfl,hh]) ?_
  intro q hq KL hKL
  by_cases hq0:q=0
  ·subst hq0
   have hd:decide (0≤((0:Nat):Int)-1)=false:=by simp
   have hE:putN fs st sz (l.drop 0).reverse (hdN 1)=accN fs st sz 1 l:=rfl
   rw [hE]
   repeat' (first|refine T.zk fun K hK=>?_|apply T.block|(refine T.reg (by kernel_rfl) fun K' hK'=>?_;simp only [bz];(with_reducible repeat' (first|(apply WL.fin;apply hK';clear hK' K')|(refine WL.step fun K2 hK2=>?_;simp only [simprocAttr,implies_true,amz,zb,tys,hd];repeat' (first|(apply hK2;clear hK2 K2)|apply And.intro|intro hb)))))|apply T.skip|apply T.exit|refine T.zf rfl ?_|refine T.ze rfl ?_|refine T.cond rfl (fun hc=>?_) (fun hc=>?_)|apply T.ret|simp only [za,z8,reduceIte,Nat.reduceEqDiff]|((repeat ((fail_if_success apply hK);clear hK K));apply hK;clear hK K))
   all_goals (refine qf.ret (.inr rfl) Tryd.results41 ?_;simp only [zR,zA,zB,simprocAttr,implies_true,amz,zb,tys,])
  obtain ⟨p,rfl⟩ : ∃ p,q=p+1:=⟨q-1,by omega⟩
  obtain ⟨s,hs⟩:=z01 (l:=l) (k:=p) (by omega)
  have hqp:(((p+1:Nat):Int)-1)=(p:Int):=by omega
  have hd:decide (0≤(p:Int))=true:=by simp
  have hp0:(0≤(p:Int))=True:=eq_true (by omega)
  have w1:IntKind.i64.wrap ((p:Int)-1)=(p:Int)-1:=z04 (by omega) (by omega)
  have m1:=z0e hs
  have hbx:=z4Y hn st sz hl (l.drop (p+1)).reverse (hdN 1)
  rw [List.length_reverse,List.length_drop] at hbx
  have hby:=z7d 1
  have hmul:(l.length-(p+1))*1048700≤1000*1048700:=Nat.mul_le_mul_right _ (by omega)
  have hst:putN fs st sz (l.drop p).reverse (hdN 1)=putN fs st sz (l.drop (p+1)).reverse (hdN 1)++entN fs st sz s:=by rw [z3S hs,z5F];rfl
  obtain ⟨x,hx⟩ : ∃ x,x=putN fs st sz (l.drop (p+1)).reverse (hdN 1):=⟨_,rfl⟩
  rw [← hx] at hst hbx
  rw [hqp,← hx]
  obtain ⟨n1,n2⟩:=z0y fs st sz s hl
  have hdc:=z4P (qw fs st sz s) (by omega) (by omega)
  have hdl:=z2A (x:=qw fs st sz s) (by omega) (by omega)
  have hln:=hln s
  have hnm:=z4u hn s
  have e1:(⟨#[32,32,32,32]⟩ : ByteArray).size=4:=rfl
  have e2:(⟨#[58]⟩ : ByteArray).size=1:=rfl
  have e3:(⟨#[10]⟩ : ByteArray).size=1:=rfl
  obtain ⟨t0,et0⟩ : ∃ z9:ByteArray,x++(⟨#[32,32,32,32]⟩ : ByteArray)=z9:=⟨_,rfl⟩
  have bt0:t0.size=(x).size+((⟨#[32,32,32,32]⟩ : ByteArray)).size:=by rw [← et0,ByteArray.size_append]
  have ct0:((x).size+((⟨#[32,32,32,32]⟩ : ByteArray)).size≤9223372036854775807)=True:=eq_true (by omega)
  obtain ⟨t1,et1⟩ : ∃ z9:ByteArray,t0++nmN fs s=z9:=⟨_,rfl⟩
  have bt1:t1.size=(t0).size+(nmN fs s).size:=by rw [← et1,ByteArray.size_append]
  have ct1:((t0).size+(nmN fs s).size≤9223372036854775807)=True:=eq_true (by omega)
  obtain ⟨t2,et2⟩ : ∃ z9:ByteArray,t1++(⟨#[58]⟩ : ByteArray)=z9:=⟨_,rfl⟩
  have bt2:t2.size=(t1).size+((⟨#[58]⟩ : ByteArray)).size:=by rw [← et2,ByteArray.size_append]
  have ct2:((t1).size+((⟨#[58]⟩ : ByteArray)).size≤9223372036854775807)=True:=eq_true (by omega)
  obtain ⟨t3,et3⟩ : ∃ z9:ByteArray,t2++dI (qw fs st sz s)=z9:=⟨_,rfl⟩
  have bt3:t3.size=(t2).size+(dI (qw fs st sz s)).size:=by rw [← et3,ByteArray.size_append]
  have ct3:((t2).size+(dI (qw fs st sz s)).size≤9223372036854775807)=True:=eq_true (by omega)
  obtain ⟨t4,et4⟩ : ∃ z9:ByteArray,t3++(⟨#[10]⟩ : ByteArray)=z9:=⟨_,rfl⟩
  have bt4:t4.size=(t3).size+((⟨#[10]⟩ : ByteArray)).size:=by rw [← et4,ByteArray.size_append]
  have ct4:((t3).size+((⟨#[10]⟩ : ByteArray)).size≤9223372036854775807)=True:=eq_true (by omega)
  have hres:x++entN fs st sz s=t4:=by
   rw [← et4,← et3,← et2,← et1,← et0,entN]
   simp only [z3H]
  rw [hres] at hst
  by_cases a1:s.1<0
  ·have g1:decide (0≤s.1)=false:=by simpa using a1
   have hnn:nmN fs s=⟨#[63]⟩:=by simp [nmN,z0B a1]
   rw [hnn] at et1 ct1
   repeat' (first|refine T.zk fun K hK=>?_|apply T.block|(refine T.reg (by kernel_rfl) fun K' hK'=>?_;simp only [bz];(with_reducible repeat' (first|(apply WL.fin;apply hK';clear hK' K')|(refine WL.step fun K2 hK2=>?_;simp only [simprocAttr,implies_true,amz,zb,tys,hd];repeat' (first|(apply hK2;clear hK2 K2)|apply And.intro|intro hb)))))|apply T.skip|apply T.exit|refine T.zf rfl ?_|refine T.ze rfl ?_|refine T.cond rfl (fun hc=>?_) (fun hc=>?_)|apply T.ret|simp only [za,z8,reduceIte,Nat.reduceEqDiff]|((repeat ((fail_if_success apply hK);clear hK K));apply hK;clear hK K))
   refine T.drw 16 (by kernel_rfl) (by kernel_rfl) fun K' hK'=>?_;simp only [List.map_cons,List.map_nil];(repeat' (first|(with_reducible refine WL.fin ?_;apply hK';clear hK' K')|(with_reducible refine WD.fin ?_)|((with_reducible first|refine WL.step fun K2 hK2=>?_|refine WD.step fun K2 hK2=>?_);simp only [simprocAttr,implies_true,amz,zb,tys,hp0,Int.toNat_natCast,m1,g1];(repeat' with_reducible (first|(apply hK2;clear hK2 K2)|apply And.intro|intro hb)))));all_goals ((try simp only [za,z8,reduceIte,Nat.reduceEqDiff]);(try ((repeat ((fail_if_success apply hK);clear hK K));apply hK;clear hK K)))
   all_goals repeat' (first|refine T.zk fun K hK=>?_|apply T.block|(refine T.reg (by kernel_rfl) fun K' hK'=>?_;simp only [bz];(with_reducible repeat' (first|(apply WL.fin;apply hK';clear hK' K')|(refine WL.step fun K2 hK2=>?_;simp only [simprocAttr,implies_true,amz,zb,tys];repeat' (first|(apply hK2;clear hK2 K2)|apply And.intro|intro hb)))))|apply T.skip|apply T.exit|refine T.zf rfl ?_|refine T.ze rfl ?_|refine T.cond rfl (fun hc=>?_) (fun hc=>?_)|apply T.ret|simp only [za,z8,reduceIte,Nat.reduceEqDiff]|((repeat ((fail_if_success apply hK);clear hK K));apply hK;clear hK K))
   refine T.drw 15 (by kernel_rfl) (by kernel_rfl) fun K' hK'=>?_;simp only [List.map_cons,List.map_nil];(repeat' (first|(with_reducible refine WL.fin ?_;apply hK';clear hK' K')|(with_reducible refine WD.fin ?_)|((with_reducible first|refine WL.step fun K2 hK2=>?_|refine WD.step fun K2 hK2=>?_);simp only [simprocAttr,implies_true,amz,zb,tys,hp0,Int.toNat_natCast,m1,et0,ct0,et1,ct1,et2,ct2,et3,ct3,et4,ct4];(repeat' (first|with_reducible (first|(apply hK2;clear hK2 K2)|apply And.intro|intro hb)|((with_reducible first|apply zh|apply zl);case h=>exact CallV.plain (Ent.of Tryd.func14 (by kernel_rfl) rfl) (hln) (by simp [AV.okB]))|((with_reducible first|apply zh|apply zl);case h=>exact CallV.plain (Ent.of Tryd.func40 (by kernel_rfl) rfl) (hdc) (by simp [AV.okB])))))));all_goals ((try simp only [za,z8,reduceIte,Nat.reduceEqDiff]);(try ((repeat ((fail_if_success apply hK);clear hK K));apply hK;clear hK K)))
   all_goals repeat' (first|refine T.zk fun K hK=>?_|apply T.block|(refine T.reg (by kernel_rfl) fun K' hK'=>?_;simp only [bz];(with_reducible repeat' (first|(apply WL.fin;apply hK';clear hK' K')|(refine WL.step fun K2 hK2=>?_;simp only [simprocAttr,implies_true,amz,zb,tys,w1];repeat' (first|(apply hK2;clear hK2 K2)|apply And.intro|intro hb)))))|apply T.skip|apply T.exit|refine T.zf rfl ?_|refine T.ze rfl ?_|refine T.cond rfl (fun hc=>?_) (fun hc=>?_)|apply T.ret|simp only [za,z8,reduceIte,Nat.reduceEqDiff]|((repeat ((fail_if_success apply hK);clear hK K));apply hK;clear hK K))
   refine hKL _ p (by refine zi.of' rfl ?_;simp only [wks,reduceIte,Nat.reduceEqDiff,ASt.okB,AV.okB,Nat.reduceLT,implies_true,hst]) (by omega) (by omega)
  have g1:decide (0≤s.1)=true:=by simpa using a1
  by_cases a2:s.1<(fs.length:Int)
  ·have g2:decide (s.1<(fs.length:Int))=true:=by simpa using a2
   obtain ⟨f,hf,hf2⟩:=z1k (l:=fs) (i:=s.1) (by omega) a2
   have mf:=z6n hf2
   have i1:(0≤s.1)=True:=eq_true (by omega)
   have hnn:nmN fs s=f.name:=by simp [nmN,hf]
   rw [hnn] at et1 ct1
   repeat' (first|refine T.zk fun K hK=>?_|apply T.block|(refine T.reg (by kernel_rfl) fun K' hK'=>?_;simp only [bz];(with_reducible repeat' (first|(apply WL.fin;apply hK';clear hK' K')|(refine WL.step fun K2 hK2=>?_;simp only [simprocAttr,implies_true,amz,zb,tys,hd];repeat' (first|(apply hK2;clear hK2 K2)|apply And.intro|intro hb)))))|apply T.skip|apply T.exit|refine T.zf rfl ?_|refine T.ze rfl ?_|refine T.cond rfl (fun hc=>?_) (fun hc=>?_)|apply T.ret|simp only [za,z8,reduceIte,Nat.reduceEqDiff]|((repeat ((fail_if_success apply hK);clear hK K));apply hK;clear hK K))
   refine T.drw 16 (by kernel_rfl) (by kernel_rfl) fun K' hK'=>?_;simp only [List.map_cons,List.map_nil];(repeat' (first|(with_reducible refine WL.fin ?_;apply hK';clear hK' K')|(with_reducible refine WD.fin ?_)|((with_reducible first|refine WL.step fun K2 hK2=>?_|refine WD.step fun K2 hK2=>?_);simp only [simprocAttr,implies_true,amz,zb,tys,hp0,Int.toNat_natCast,m1,hfl,g1,g2];(repeat' with_reducible (first|(apply hK2;clear hK2 K2)|apply And.intro|intro hb)))));all_goals ((try simp only [za,z8,reduceIte,Nat.reduceEqDiff]);(try ((repeat ((fail_if_success apply hK);clear hK K));apply hK;clear hK K)))
   all_goals repeat' (first|refine T.zk fun K hK=>?_|apply T.block|(refine T.reg (by kernel_rfl) fun K' hK'=>?_;simp only [bz];(with_reducible repeat' (first|(apply WL.fin;apply hK';clear hK' K')|(refine WL.step fun K2 hK2=>?_;simp only [simprocAttr,implies_true,amz,zb,tys];repeat' (first|(apply hK2;clear hK2 K2)|apply And.intro|intro hb)))))|apply T.skip|apply T.exit|refine T.zf rfl ?_|refine T.ze rfl ?_|refine T.cond rfl (fun hc=>?_) (fun hc=>?_)|apply T.ret|simp only [za,z8,reduceIte,Nat.reduceEqDiff]|((repeat ((fail_if_success apply hK);clear hK K));apply hK;clear hK K))
   refine T.drw 9 (by kernel_rfl) (by kernel_rfl) fun K' hK'=>?_;simp only [List.map_cons,List.map_nil];(repeat' (first|(with_reducible refine WL.fin ?_;apply hK';clear hK' K')|(with_reducible refine WD.fin ?_)|((with_reducible first|refine WL.step fun K2 hK2=>?_|refine WD.step fun K2 hK2=>?_);simp only [simprocAttr,implies_true,amz,zb,tys,hp0,Int.toNat_natCast,m1,mf,i1];(repeat' with_reducible (first|(apply hK2;clear hK2 K2)|apply And.intro|intro hb)))));all_goals ((try simp only [za,z8,reduceIte,Nat.reduceEqDiff]);(try ((repeat ((fail_if_success apply hK);clear hK K));apply hK;clear hK K)))
   all_goals repeat' (first|refine T.zk fun K hK=>?_|apply T.block|(refine T.reg (by kernel_rfl) fun K' hK'=>?_;simp only [bz];(with_reducible repeat' (first|(apply WL.fin;apply hK';clear hK' K')|(refine WL.step fun K2 hK2=>?_;simp only [simprocAttr,implies_true,amz,zb,tys];repeat' (first|(apply hK2;clear hK2 K2)|apply And.intro|intro hb)))))|apply T.skip|apply T.exit|refine T.zf rfl ?_|refine T.ze rfl ?_|refine T.cond rfl (fun hc=>?_) (fun hc=>?_)|apply T.ret|simp only [za,z8,reduceIte,Nat.reduceEqDiff]|((repeat ((fail_if_success apply hK);clear hK K));apply hK;clear hK K))
   refine T.drw 15 (by kernel_rfl) (by kernel_rfl) fun K' hK'=>?_;simp only [List.map_cons,List.map_nil];(repeat' (first|(with_reducible refine WL.fin ?_;apply hK';clear hK' K')|(with_reducible refine WD.fin ?_)|((with_reducible first|refine WL.step fun K2 hK2=>?_|refine WD.step fun K2 hK2=>?_);simp only [simprocAttr,implies_true,amz,zb,tys,hp0,Int.toNat_natCast,m1,et0,ct0,et1,ct1,et2,ct2,et3,ct3,et4,ct4];(repeat' (first|with_reducible (first|(apply hK2;clear hK2 K2)|apply And.intro|intro hb)|((with_reducible first|apply zh|apply zl);case h=>exact CallV.plain (Ent.of Tryd.func14 (by kernel_rfl) rfl) (hln) (by simp [AV.okB]))|((with_reducible first|apply zh|apply zl);case h=>exact CallV.plain (Ent.of Tryd.func40 (by kernel_rfl) rfl) (hdc) (by simp [AV.okB])))))));all_goals ((try simp only [za,z8,reduceIte,Nat.reduceEqDiff]);(try ((repeat ((fail_if_success apply hK);clear hK K));apply hK;clear hK K)))
   all_goals repeat' (first|refine T.zk fun K hK=>?_|apply T.block|(refine T.reg (by kernel_rfl) fun K' hK'=>?_;simp only [bz];(with_reducible repeat' (first|(apply WL.fin;apply hK';clear hK' K')|(refine WL.step fun K2 hK2=>?_;simp only [simprocAttr,implies_true,amz,zb,tys,w1];repeat' (first|(apply hK2;clear hK2 K2)|apply And.intro|intro hb)))))|apply T.skip|apply T.exit|refine T.zf rfl ?_|refine T.ze rfl ?_|refine T.cond rfl (fun hc=>?_) (fun hc=>?_)|apply T.ret|simp only [za,z8,reduceIte,Nat.reduceEqDiff]|((repeat ((fail_if_success apply hK);clear hK K));apply hK;clear hK K))
   refine hKL _ p (by refine zi.of' rfl ?_;simp only [wks,reduceIte,Nat.reduceEqDiff,ASt.okB,AV.okB,Nat.reduceLT,implies_true,hst]) (by omega) (by omega)
  ·have g2:decide (s.1<(fs.length:Int))=false:=by simpa using a2
   have hnn:nmN fs s=⟨#[63]⟩:=by simp [nmN,z1l (Int.not_lt.1 a2)]
   rw [hnn] at et1 ct1
   repeat' (first|refine T.zk fun K hK=>?_|apply T.block|(refine T.reg (by kernel_rfl) fun K' hK'=>?_;simp only [bz];(with_reducible repeat' (first|(apply WL.fin;apply hK';clear hK' K')|(refine WL.step fun K2 hK2=>?_;simp only [simprocAttr,implies_true,amz,zb,tys,hd];repeat' (first|(apply hK2;clear hK2 K2)|apply And.intro|intro hb)))))|apply T.skip|apply T.exit|refine T.zf rfl ?_|refine T.ze rfl ?_|refine T.cond rfl (fun hc=>?_) (fun hc=>?_)|apply T.ret|simp only [za,z8,reduceIte,Nat.reduceEqDiff]|((repeat ((fail_if_success apply hK);clear hK K));apply hK;clear hK K))
   refine T.drw 16 (by kernel_rfl) (by kernel_rfl) fun K' hK'=>?_;simp only [List.map_cons,List.map_nil];(repeat' (first|(with_reducible refine WL.fin ?_;apply hK';clear hK' K')|(with_reducible refine WD.fin ?_)|((with_reducible first|refine WL.step fun K2 hK2=>?_|refine WD.step fun K2 hK2=>?_);simp only [simprocAttr,implies_true,amz,zb,tys,hp0,Int.toNat_natCast,m1,hfl,g1,g2];(repeat' with_reducible (first|(apply hK2;clear hK2 K2)|apply And.intro|intro hb)))));all_goals ((try simp only [za,z8,reduceIte,Nat.reduceEqDiff]);(try ((repeat ((fail_if_success apply hK);clear hK K));apply hK;clear hK K)))
   all_goals repeat' (first|refine T.zk fun K hK=>?_|apply T.block|(refine T.reg (by kernel_rfl) fun K' hK'=>?_;simp only [bz];(with_reducible repeat' (first|(apply WL.fin;apply hK';clear hK' K')|(refine WL.step fun K2 hK2=>?_;simp only [simprocAttr,implies_true,amz,zb,tys];repeat' (first|(apply hK2;clear hK2 K2)|apply And.intro|intro hb)))))|apply T.skip|apply T.exit|refine T.zf rfl ?_|refine T.ze rfl ?_|refine T.cond rfl (fun hc=>?_) (fun hc=>?_)|apply T.ret|simp only [za,z8,reduceIte,Nat.reduceEqDiff]|((repeat ((fail_if_success apply hK);clear hK K));apply hK;clear hK K))
   refine T.drw 15 (by kernel_rfl) (by kernel_rfl) fun K' hK'=>?_;simp only [List.map_cons,List.map_nil];(repeat' (first|(with_reducible refine WL.fin ?_;apply hK';clear hK' K')|(with_reducible refine WD.fin ?_)|((with_reducible first|refine WL.step fun K2 hK2=>?_|refine WD.step fun K2 hK2=>?_);simp only [simprocAttr,implies_true,amz,zb,tys,hp0,Int.toNat_natCast,m1,et0,ct0,et1,ct1,et2,ct2,et3,ct3,et4,ct4];(repeat' (first|with_reducible (first|(apply hK2;clear hK2 K2)|apply And.intro|intro hb)|((with_reducible first|apply zh|apply zl);case h=>exact CallV.plain (Ent.of Tryd.func14 (by kernel_rfl) rfl) (hln) (by simp [AV.okB]))|((with_reducible first|apply zh|apply zl);case h=>exact CallV.plain (Ent.of Tryd.func40 (by kernel_rfl) rfl) (hdc) (by simp [AV.okB])))))));all_goals ((try simp only [za,z8,reduceIte,Nat.reduceEqDiff]);(try ((repeat ((fail_if_success apply hK);clear hK K));apply hK;clear hK K)))
   all_goals repeat' (first|refine T.zk fun K hK=>?_|apply T.block|(refine T.reg (by kernel_rfl) fun K' hK'=>?_;simp only [bz];(with_reducible repeat' (first|(apply WL.fin;apply hK';clear hK' K')|(refine WL.step fun K2 hK2=>?_;simp only [simprocAttr,implies_true,amz,zb,tys,w1];repeat' (first|(apply hK2;clear hK2 K2)|apply And.intro|intro hb)))))|apply T.skip|apply T.exit|refine T.zf rfl ?_|refine T.ze rfl ?_|refine T.cond rfl (fun hc=>?_) (fun hc=>?_)|apply T.ret|simp only [za,z8,reduceIte,Nat.reduceEqDiff]|((repeat ((fail_if_success apply hK);clear hK K));apply hK;clear hK K))
   refine hKL _ p (by refine zi.of' rfl ?_;simp only [wks,reduceIte,Nat.reduceEqDiff,ASt.okB,AV.okB,Nat.reduceLT,implies_true,hst]) (by omega) (by omega)
 have f1:(k==1)=false:=by simpa using k1
 by_cases k2:k=2
 ·clear f1
  subst k2
  have f1:((2:Int)==1)=false:=rfl
  have f2:((2:Int)==2)=true:=rfl
  have hh:=hd2
  refine zy.of Tryd.func41 rfl 67 rfl (by decide) (by simp [AV.okB]) ?_
  repeat' (first|refine T.zk fun K hK=>?_|apply T.block|(refine T.reg (by kernel_rfl) fun K' hK'=>?_;simp only [bz];(with_reducible repeat' (first|(apply WL.fin;apply hK';clear hK' K')|(refine WL.step fun K2 hK2=>?_;simp only [simprocAttr,implies_true,amz,zb,tys,hrl,f1,f2,w0];repeat' (first|(apply hK2;clear hK2 K2)|apply And.intro|intro hb)))))|apply T.skip|apply T.exit|refine T.zf rfl ?_|refine T.ze rfl ?_|refine T.cond rfl (fun hc=>?_) (fun hc=>?_)|apply T.ret|simp only [za,z8,reduceIte,Nat.reduceEqDiff]|((repeat ((fail_if_success apply hK);clear hK K));apply hK;clear hK K))
  refine T.z0o (fun q:Nat=>⟨[(3,.p (.seq 2 (rowP l))),(4,.ptr 0 0),(5,.ptr 1 0),(9,.str (putN fs st sz (l.drop q).reverse (hdN 2))),(10,.int ((q:Int)-1))],[(1,.boxP none 48 [.p (.seq 1 (rowZ st)),.int sz]),(0,.boxP none 46 [.p (.seq 4 (fs.map fuC)),.p g,.p y,.int mn])],67,2⟩) (fun q=>q≤l.length) (fun q=>q) l.length (Nat.le_refl _) (by refine zi.of' rfl ?_;simp only [wks,reduceIte,Nat.reduceEqDiff,ASt.okB,AV.okB,Nat.reduceLT,implies_true,List.drop_length,List.reverse_nil,show putN fs st sz [] (hdN 2)=hdN 2 from rfl,hh]) ?_
  intro q hq KL hKL
  by_cases hq0:q=0
  ·subst hq0
   have hd:decide (0≤((0:Nat):Int)-1)=false:=by simp
   have hE:putN fs st sz (l.drop 0).reverse (hdN 2)=accN fs st sz 2 l:=rfl
   rw [hE]
   repeat' (first|refine T.zk fun K hK=>?_|apply T.block|(refine T.reg (by kernel_rfl) fun K' hK'=>?_;simp only [bz];(with_reducible repeat' (first|(apply WL.fin;apply hK';clear hK' K')|(refine WL.step fun K2 hK2=>?_;simp only [simprocAttr,implies_true,amz,zb,tys,hd];repeat' (first|(apply hK2;clear hK2 K2)|apply And.intro|intro hb)))))|apply T.skip|apply T.exit|refine T.zf rfl ?_|refine T.ze rfl ?_|refine T.cond rfl (fun hc=>?_) (fun hc=>?_)|apply T.ret|simp only [za,z8,reduceIte,Nat.reduceEqDiff]|((repeat ((fail_if_success apply hK);clear hK K));apply hK;clear hK K))
   all_goals (refine qf.ret (.inr rfl) Tryd.results41 ?_;simp only [zR,zA,zB,simprocAttr,implies_true,amz,zb,tys,])
  obtain ⟨p,rfl⟩ : ∃ p,q=p+1:=⟨q-1,by omega⟩
  obtain ⟨s,hs⟩:=z01 (l:=l) (k:=p) (by omega)
  have hqp:(((p+1:Nat):Int)-1)=(p:Int):=by omega
  have hd:decide (0≤(p:Int))=true:=by simp
  have hp0:(0≤(p:Int))=True:=eq_true (by omega)
  have w1:IntKind.i64.wrap ((p:Int)-1)=(p:Int)-1:=z04 (by omega) (by omega)
  have m1:=z0e hs
  have hbx:=z4Y hn st sz hl (l.drop (p+1)).reverse (hdN 2)
  rw [List.length_reverse,List.length_drop] at hbx
  have hby:=z7d 2
  have hmul:(l.length-(p+1))*1048700≤1000*1048700:=Nat.mul_le_mul_right _ (by omega)
  have hst:putN fs st sz (l.drop p).reverse (hdN 2)=putN fs st sz (l.drop (p+1)).reverse (hdN 2)++entN fs st sz s:=by rw [z3S hs,z5F];rfl
  obtain ⟨x,hx⟩ : ∃ x,x=putN fs st sz (l.drop (p+1)).reverse (hdN 2):=⟨_,rfl⟩
  rw [← hx] at hst hbx
  rw [hqp,← hx]
  obtain ⟨n1,n2⟩:=z0y fs st sz s hl
  have hdc:=z4P (qw fs st sz s) (by omega) (by omega)
  have hdl:=z2A (x:=qw fs st sz s) (by omega) (by omega)
  have hln:=hln s
  have hnm:=z4u hn s
  have e1:(⟨#[32,32,32,32]⟩ : ByteArray).size=4:=rfl
  have e2:(⟨#[58]⟩ : ByteArray).size=1:=rfl
  have e3:(⟨#[10]⟩ : ByteArray).size=1:=rfl
  obtain ⟨t0,et0⟩ : ∃ z9:ByteArray,x++(⟨#[32,32,32,32]⟩ : ByteArray)=z9:=⟨_,rfl⟩
  have bt0:t0.size=(x).size+((⟨#[32,32,32,32]⟩ : ByteArray)).size:=by rw [← et0,ByteArray.size_append]
  have ct0:((x).size+((⟨#[32,32,32,32]⟩ : ByteArray)).size≤9223372036854775807)=True:=eq_true (by omega)
  obtain ⟨t1,et1⟩ : ∃ z9:ByteArray,t0++nmN fs s=z9:=⟨_,rfl⟩
  have bt1:t1.size=(t0).size+(nmN fs s).size:=by rw [← et1,ByteArray.size_append]
  have ct1:((t0).size+(nmN fs s).size≤9223372036854775807)=True:=eq_true (by omega)
  obtain ⟨t2,et2⟩ : ∃ z9:ByteArray,t1++(⟨#[58]⟩ : ByteArray)=z9:=⟨_,rfl⟩
  have bt2:t2.size=(t1).size+((⟨#[58]⟩ : ByteArray)).size:=by rw [← et2,ByteArray.size_append]
  have ct2:((t1).size+((⟨#[58]⟩ : ByteArray)).size≤9223372036854775807)=True:=eq_true (by omega)
  obtain ⟨t3,et3⟩ : ∃ z9:ByteArray,t2++dI (qw fs st sz s)=z9:=⟨_,rfl⟩
  have bt3:t3.size=(t2).size+(dI (qw fs st sz s)).size:=by rw [← et3,ByteArray.size_append]
  have ct3:((t2).size+(dI (qw fs st sz s)).size≤9223372036854775807)=True:=eq_true (by omega)
  obtain ⟨t4,et4⟩ : ∃ z9:ByteArray,t3++(⟨#[10]⟩ : ByteArray)=z9:=⟨_,rfl⟩
  have bt4:t4.size=(t3).size+((⟨#[10]⟩ : ByteArray)).size:=by rw [← et4,ByteArray.size_append]
  have ct4:((t3).size+((⟨#[10]⟩ : ByteArray)).size≤9223372036854775807)=True:=eq_true (by omega)
  have hres:x++entN fs st sz s=t4:=by
   rw [← et4,← et3,← et2,← et1,← et0,entN]
   simp only [z3H]
  rw [hres] at hst
  by_cases a1:s.1<0
  ·have g1:decide (0≤s.1)=false:=by simpa using a1
   have hnn:nmN fs s=⟨#[63]⟩:=by simp [nmN,z0B a1]
   rw [hnn] at et1 ct1
   repeat' (first|refine T.zk fun K hK=>?_|apply T.block|(refine T.reg (by kernel_rfl) fun K' hK'=>?_;simp only [bz];(with_reducible repeat' (first|(apply WL.fin;apply hK';clear hK' K')|(refine WL.step fun K2 hK2=>?_;simp only [simprocAttr,implies_true,amz,zb,tys,hd];repeat' (first|(apply hK2;clear hK2 K2)|apply And.intro|intro hb)))))|apply T.skip|apply T.exit|refine T.zf rfl ?_|refine T.ze rfl ?_|refine T.cond rfl (fun hc=>?_) (fun hc=>?_)|apply T.ret|simp only [za,z8,reduceIte,Nat.reduceEqDiff]|((repeat ((fail_if_success apply hK);clear hK K));apply hK;clear hK K))
   refine T.drw 16 (by kernel_rfl) (by kernel_rfl) fun K' hK'=>?_;simp only [List.map_cons,List.map_nil];(repeat' (first|(with_reducible refine WL.fin ?_;apply hK';clear hK' K')|(with_reducible refine WD.fin ?_)|((with_reducible first|refine WL.step fun K2 hK2=>?_|refine WD.step fun K2 hK2=>?_);simp only [simprocAttr,implies_true,amz,zb,tys,hp0,Int.toNat_natCast,m1,g1];(repeat' with_reducible (first|(apply hK2;clear hK2 K2)|apply And.intro|intro hb)))));all_goals ((try simp only [za,z8,reduceIte,Nat.reduceEqDiff]);(try ((repeat ((fail_if_success apply hK);clear hK K));apply hK;clear hK K)))
   all_goals repeat' (first|refine T.zk fun K hK=>?_|apply T.block|(refine T.reg (by kernel_rfl) fun K' hK'=>?_;simp only [bz];(with_reducible repeat' (first|(apply WL.fin;apply hK';clear hK' K')|(refine WL.step fun K2 hK2=>?_;simp only [simprocAttr,implies_true,amz,zb,tys];repeat' (first|(apply hK2;clear hK2 K2)|apply And.intro|intro hb)))))|apply T.skip|apply T.exit|refine T.zf rfl ?_|refine T.ze rfl ?_|refine T.cond rfl (fun hc=>?_) (fun hc=>?_)|apply T.ret|simp only [za,z8,reduceIte,Nat.reduceEqDiff]|((repeat ((fail_if_success apply hK);clear hK K));apply hK;clear hK K))
   refine T.drw 15 (by kernel_rfl) (by kernel_rfl) fun K' hK'=>?_;simp only [List.map_cons,List.map_nil];(repeat' (first|(with_reducible refine WL.fin ?_;apply hK';clear hK' K')|(with_reducible refine WD.fin ?_)|((with_reducible first|refine WL.step fun K2 hK2=>?_|refine WD.step fun K2 hK2=>?_);simp only [simprocAttr,implies_true,amz,zb,tys,hp0,Int.toNat_natCast,m1,et0,ct0,et1,ct1,et2,ct2,et3,ct3,et4,ct4];(repeat' (first|with_reducible (first|(apply hK2;clear hK2 K2)|apply And.intro|intro hb)|((with_reducible first|apply zh|apply zl);case h=>exact CallV.plain (Ent.of Tryd.func14 (by kernel_rfl) rfl) (hln) (by simp [AV.okB]))|((with_reducible first|apply zh|apply zl);case h=>exact CallV.plain (Ent.of Tryd.func40 (by kernel_rfl) rfl) (hdc) (by simp [AV.okB])))))));all_goals ((try simp only [za,z8,reduceIte,Nat.reduceEqDiff]);(try ((repeat ((fail_if_success apply hK);clear hK K));apply hK;clear hK K)))
   all_goals repeat' (first|refine T.zk fun K hK=>?_|apply T.block|(refine T.reg (by kernel_rfl) fun K' hK'=>?_;simp only [bz];(with_reducible repeat' (first|(apply WL.fin;apply hK';clear hK' K')|(refine WL.step fun K2 hK2=>?_;simp only [simprocAttr,implies_true,amz,zb,tys,w1];repeat' (first|(apply hK2;clear hK2 K2)|apply And.intro|intro hb)))))|apply T.skip|apply T.exit|refine T.zf rfl ?_|refine T.ze rfl ?_|refine T.cond rfl (fun hc=>?_) (fun hc=>?_)|apply T.ret|simp only [za,z8,reduceIte,Nat.reduceEqDiff]|((repeat ((fail_if_success apply hK);clear hK K));apply hK;clear hK K))
   refine hKL _ p (by refine zi.of' rfl ?_;simp only [wks,reduceIte,Nat.reduceEqDiff,ASt.okB,AV.okB,Nat.reduceLT,implies_true,hst]) (by omega) (by omega)
  have g1:decide (0≤s.1)=true:=by simpa using a1
  by_cases a2:s.1<(fs.length:Int)
  ·have g2:decide (s.1<(fs.length:Int))=true:=by simpa using a2
   obtain ⟨f,hf,hf2⟩:=z1k (l:=fs) (i:=s.1) (by omega) a2
   have mf:=z6n hf2
   have i1:(0≤s.1)=True:=eq_true (by omega)
   have hnn:nmN fs s=f.name:=by simp [nmN,hf]
   rw [hnn] at et1 ct1
   repeat' (first|refine T.zk fun K hK=>?_|apply T.block|(refine T.reg (by kernel_rfl) fun K' hK'=>?_;simp only [bz];(with_reducible repeat' (first|(apply WL.fin;apply hK';clear hK' K')|(refine WL.step fun K2 hK2=>?_;simp only [simprocAttr,implies_true,amz,zb,tys,hd];repeat' (first|(apply hK2;clear hK2 K2)|apply And.intro|intro hb)))))|apply T.skip|apply T.exit|refine T.zf rfl ?_|refine T.ze rfl ?_|refine T.cond rfl (fun hc=>?_) (fun hc=>?_)|apply T.ret|simp only [za,z8,reduceIte,Nat.reduceEqDiff]|((repeat ((fail_if_success apply hK);clear hK K));apply hK;clear hK K))
   refine T.drw 16 (by kernel_rfl) (by kernel_rfl) fun K' hK'=>?_;simp only [List.map_cons,List.map_nil];(repeat' (first|(with_reducible refine WL.fin ?_;apply hK';clear hK' K')|(with_reducible refine WD.fin ?_)|((with_reducible first|refine WL.step fun K2 hK2=>?_|refine WD.step fun K2 hK2=>?_);simp only [simprocAttr,implies_true,amz,zb,tys,hp0,Int.toNat_natCast,m1,hfl,g1,g2];(repeat' with_reducible (first|(apply hK2;clear hK2 K2)|apply And.intro|intro hb)))));all_goals ((try simp only [za,z8,reduceIte,Nat.reduceEqDiff]);(try ((repeat ((fail_if_success apply hK);clear hK K));apply hK;clear hK K)))
   all_goals repeat' (first|refine T.zk fun K hK=>?_|apply T.block|(refine T.reg (by kernel_rfl) fun K' hK'=>?_;simp only [bz];(with_reducible repeat' (first|(apply WL.fin;apply hK';clear hK' K')|(refine WL.step fun K2 hK2=>?_;simp only [simprocAttr,implies_true,amz,zb,tys];repeat' (first|(apply hK2;clear hK2 K2)|apply And.intro|intro hb)))))|apply T.skip|apply T.exit|refine T.zf rfl ?_|refine T.ze rfl ?_|refine T.cond rfl (fun hc=>?_) (fun hc=>?_)|apply T.ret|simp only [za,z8,reduceIte,Nat.reduceEqDiff]|((repeat ((fail_if_success apply hK);clear hK K));apply hK;clear hK K))
   refine T.drw 9 (by kernel_rfl) (by kernel_rfl) fun K' hK'=>?_;simp only [List.map_cons,List.map_nil];(repeat' (first|(with_reducible refine WL.fin ?_;apply hK';clear hK' K')|(with_reducible refine WD.fin ?_)|((with_reducible first|refine WL.step fun K2 hK2=>?_|refine WD.step fun K2 hK2=>?_);simp only [simprocAttr,implies_true,amz,zb,tys,hp0,Int.toNat_natCast,m1,mf,i1];(repeat' with_reducible (first|(apply hK2;clear hK2 K2)|apply And.intro|intro hb)))));all_goals ((try simp only [za,z8,reduceIte,Nat.reduceEqDiff]);(try ((repeat ((fail_if_success apply hK);clear hK K));apply hK;clear hK K)))
   all_goals repeat' (first|refine T.zk fun K hK=>?_|apply T.block|(refine T.reg (by kernel_rfl) fun K' hK'=>?_;simp only [bz];(with_reducible repeat' (first|(apply WL.fin;apply hK';clear hK' K')|(refine WL.step fun K2 hK2=>?_;simp only [simprocAttr,implies_true,amz,zb,tys];repeat' (first|(apply hK2;clear hK2 K2)|apply And.intro|intro hb)))))|apply T.skip|apply T.exit|refine T.zf rfl ?_|refine T.ze rfl ?_|refine T.cond rfl (fun hc=>?_) (fun hc=>?_)|apply T.ret|simp only [za,z8,reduceIte,Nat.reduceEqDiff]|((repeat ((fail_if_success apply hK);clear hK K));apply hK;clear hK K))
   refine T.drw 15 (by kernel_rfl) (by kernel_rfl) fun K' hK'=>?_;simp only [List.map_cons,List.map_nil];(repeat' (first|(with_reducible refine WL.fin ?_;apply hK';clear hK' K')|(with_reducible refine WD.fin ?_)|((with_reducible first|refine WL.step fun K2 hK2=>?_|refine WD.step fun K2 hK2=>?_);simp only [simprocAttr,implies_true,amz,zb,tys,hp0,Int.toNat_natCast,m1,et0,ct0,et1,ct1,et2,ct2,et3,ct3,et4,ct4];(repeat' (first|with_reducible (first|(apply hK2;clear hK2 K2)|apply And.intro|intro hb)|((with_reducible first|apply zh|apply zl);case h=>exact CallV.plain (Ent.of Tryd.func14 (by kernel_rfl) rfl) (hln) (by simp [AV.okB]))|((with_reducible first|apply zh|apply zl);case h=>exact CallV.plain (Ent.of Tryd.func40 (by kernel_rfl) rfl) (hdc) (by simp [AV.okB])))))));all_goals ((try simp only [za,z8,reduceIte,Nat.reduceEqDiff]);(try ((repeat ((fail_if_success apply hK);clear hK K));apply hK;clear hK K)))
   all_goals repeat' (first|refine T.zk fun K hK=>?_|apply T.block|(refine T.reg (by kernel_rfl) fun K' hK'=>?_;simp only [bz];(with_reducible repeat' (first|(apply WL.fin;apply hK';clear hK' K')|(refine WL.step fun K2 hK2=>?_;simp only [simprocAttr,implies_true,amz,zb,tys,w1];repeat' (first|(apply hK2;clear hK2 K2)|apply And.intro|intro hb)))))|apply T.skip|apply T.exit|refine T.zf rfl ?_|refine T.ze rfl ?_|refine T.cond rfl (fun hc=>?_) (fun hc=>?_)|apply T.ret|simp only [za,z8,reduceIte,Nat.reduceEqDiff]|((repeat ((fail_if_success apply hK);clear hK K));apply hK;clear hK K))
   refine hKL _ p (by refine zi.of' rfl ?_;simp only [wks,reduceIte,Nat.reduceEqDiff,ASt.okB,AV.okB,Nat.reduceLT,implies_true,hst]) (by omega) (by omega)
  ·have g2:decide (s.1<(fs.length:Int))=false:=by simpa using a2
   have hnn:nmN fs s=⟨#[63]⟩:=by simp [nmN,z1l (Int.not_lt.1 a2)]
   rw [hnn] at et1 ct1
   repeat' (first|refine T.zk fun K hK=>?_|apply T.block|(refine T.reg (by kernel_rfl) fun K' hK'=>?_;simp only [bz];(with_reducible repeat' (first|(apply WL.fin;apply hK';clear hK' K')|(refine WL.step fun K2 hK2=>?_;simp only [simprocAttr,implies_true,amz,zb,tys,hd];repeat' (first|(apply hK2;clear hK2 K2)|apply And.intro|intro hb)))))|apply T.skip|apply T.exit|refine T.zf rfl ?_|refine T.ze rfl ?_|refine T.cond rfl (fun hc=>?_) (fun hc=>?_)|apply T.ret|simp only [za,z8,reduceIte,Nat.reduceEqDiff]|((repeat ((fail_if_success apply hK);clear hK K));apply hK;clear hK K))
   refine T.drw 16 (by kernel_rfl) (by kernel_rfl) fun K' hK'=>?_;simp only [List.map_cons,List.map_nil];(repeat' (first|(with_reducible refine WL.fin ?_;apply hK';clear hK' K')|(with_reducible refine WD.fin ?_)|((with_reducible first|refine WL.step fun K2 hK2=>?_|refine WD.step fun K2 hK2=>?_);simp only [simprocAttr,implies_true,amz,zb,tys,hp0,Int.toNat_natCast,m1,hfl,g1,g2];(repeat' with_reducible (first|(apply hK2;clear hK2 K2)|apply And.intro|intro hb)))));all_goals ((try simp only [za,z8,reduceIte,Nat.reduceEqDiff]);(try ((repeat ((fail_if_success apply hK);clear hK K));apply hK;clear hK K)))
   all_goals repeat' (first|refine T.zk fun K hK=>?_|apply T.block|(refine T.reg (by kernel_rfl) fun K' hK'=>?_;simp only [bz];(with_reducible repeat' (first|(apply WL.fin;apply hK';clear hK' K')|(refine WL.step fun K2 hK2=>?_;simp only [simprocAttr,implies_true,amz,zb,tys];repeat' (first|(apply hK2;clear hK2 K2)|apply And.intro|intro hb)))))|apply T.skip|apply T.exit|refine T.zf rfl ?_|refine T.ze rfl ?_|refine T.cond rfl (fun hc=>?_) (fun hc=>?_)|apply T.ret|simp only [za,z8,reduceIte,Nat.reduceEqDiff]|((repeat ((fail_if_success apply hK);clear hK K));apply hK;clear hK K))
   refine T.drw 15 (by kernel_rfl) (by kernel_rfl) fun K' hK'=>?_;simp only [List.map_cons,List.map_nil];(repeat' (first|(with_reducible refine WL.fin ?_;apply hK';clear hK' K')|(with_reducible refine WD.fin ?_)|((with_reducible first|refine WL.step fun K2 hK2=>?_|refine WD.step fun K2 hK2=>?_);simp only [simprocAttr,implies_true,amz,zb,tys,hp0,Int.toNat_natCast,m1,et0,ct0,et1,ct1,et2,ct2,et3,ct3,et4,ct4];(repeat' (first|with_reducible (first|(apply hK2;clear hK2 K2)|apply And.intro|intro hb)|((with_reducible first|apply zh|apply zl);case h=>exact CallV.plain (Ent.of Tryd.func14 (by kernel_rfl) rfl) (hln) (by simp [AV.okB]))|((with_reducible first|apply zh|apply zl);case h=>exact CallV.plain (Ent.of Tryd.func40 (by kernel_rfl) rfl) (hdc) (by simp [AV.okB])))))));all_goals ((try simp only [za,z8,reduceIte,Nat.reduceEqDiff]);(try ((repeat ((fail_if_success apply hK);clear hK K));apply hK;clear hK K)))
   all_goals repeat' (first|refine T.zk fun K hK=>?_|apply T.block|(refine T.reg (by kernel_rfl) fun K' hK'=>?_;simp only [bz];(with_reducible repeat' (first|(apply WL.fin;apply hK';clear hK' K')|(refine WL.step fun K2 hK2=>?_;simp only [simprocAttr,implies_true,amz,zb,tys,w1];repeat' (first|(apply hK2;clear hK2 K2)|apply And.intro|intro hb)))))|apply T.skip|apply T.exit|refine T.zf rfl ?_|refine T.ze rfl ?_|refine T.cond rfl (fun hc=>?_) (fun hc=>?_)|apply T.ret|simp only [za,z8,reduceIte,Nat.reduceEqDiff]|((repeat ((fail_if_success apply hK);clear hK K));apply hK;clear hK K))
   refine hKL _ p (by refine zi.of' rfl ?_;simp only [wks,reduceIte,Nat.reduceEqDiff,ASt.okB,AV.okB,Nat.reduceLT,implies_true,hst]) (by omega) (by omega)
 have f2:(k==2)=false:=by simpa using k2
 have hh:=hd3 k1 k2
 refine zy.of Tryd.func41 rfl 67 rfl (by decide) (by simp [AV.okB]) ?_
 repeat' (first|refine T.zk fun K hK=>?_|apply T.block|(refine T.reg (by kernel_rfl) fun K' hK'=>?_;simp only [bz];(with_reducible repeat' (first|(apply WL.fin;apply hK';clear hK' K')|(refine WL.step fun K2 hK2=>?_;simp only [simprocAttr,implies_true,amz,zb,tys,hrl,f1,f2,w0];repeat' (first|(apply hK2;clear hK2 K2)|apply And.intro|intro hb)))))|apply T.skip|apply T.exit|refine T.zf rfl ?_|refine T.ze rfl ?_|refine T.cond rfl (fun hc=>?_) (fun hc=>?_)|apply T.ret|simp only [za,z8,reduceIte,Nat.reduceEqDiff]|((repeat ((fail_if_success apply hK);clear hK K));apply hK;clear hK K))
 refine T.z0o (fun q:Nat=>⟨[(3,.p (.seq 2 (rowP l))),(4,.ptr 0 0),(5,.ptr 1 0),(9,.str (putN fs st sz (l.drop q).reverse (hdN k))),(10,.int ((q:Int)-1))],[(1,.boxP none 48 [.p (.seq 1 (rowZ st)),.int sz]),(0,.boxP none 46 [.p (.seq 4 (fs.map fuC)),.p g,.p y,.int mn])],67,2⟩) (fun q=>q≤l.length) (fun q=>q) l.length (Nat.le_refl _) (by refine zi.of' rfl ?_;simp only [wks,reduceIte,Nat.reduceEqDiff,ASt.okB,AV.okB,Nat.reduceLT,implies_true,List.drop_length,List.reverse_nil,show putN fs st sz [] (hdN k)=hdN k from rfl,hh]) ?_
 intro q hq KL hKL
 by_cases hq0:q=0
 ·subst hq0
  have hd:decide (0≤((0:Nat):Int)-1)=false:=by simp
  have hE:putN fs st sz (l.drop 0).reverse (hdN k)=accN fs st sz k l:=rfl
  rw [hE]
  repeat' (first|refine T.zk fun K hK=>?_|apply T.block|(refine T.reg (by kernel_rfl) fun K' hK'=>?_;simp only [bz];(with_reducible repeat' (first|(apply WL.fin;apply hK';clear hK' K')|(refine WL.step fun K2 hK2=>?_;simp only [simprocAttr,implies_true,amz,zb,tys,hd];repeat' (first|(apply hK2;clear hK2 K2)|apply And.intro|intro hb)))))|apply T.skip|apply T.exit|refine T.zf rfl ?_|refine T.ze rfl ?_|refine T.cond rfl (fun hc=>?_) (fun hc=>?_)|apply T.ret|simp only [za,z8,reduceIte,Nat.reduceEqDiff]|((repeat ((fail_if_success apply hK);clear hK K));apply hK;clear hK K))
  all_goals (refine qf.ret (.inr rfl) Tryd.results41 ?_;simp only [zR,zA,zB,simprocAttr,implies_true,amz,zb,tys,])
 obtain ⟨p,rfl⟩ : ∃ p,q=p+1:=⟨q-1,by omega⟩
 obtain ⟨s,hs⟩:=z01 (l:=l) (k:=p) (by omega)
 have hqp:(((p+1:Nat):Int)-1)=(p:Int):=by omega
 have hd:decide (0≤(p:Int))=true:=by simp
 have hp0:(0≤(p:Int))=True:=eq_true (by omega)
 have w1:IntKind.i64.wrap ((p:Int)-1)=(p:Int)-1:=z04 (by omega) (by omega)
 have m1:=z0e hs
 have hbx:=z4Y hn st sz hl (l.drop (p+1)).reverse (hdN k)
 rw [List.length_reverse,List.length_drop] at hbx
 have hby:=z7d k
 have hmul:(l.length-(p+1))*1048700≤1000*1048700:=Nat.mul_le_mul_right _ (by omega)
 have hst:putN fs st sz (l.drop p).reverse (hdN k)=putN fs st sz (l.drop (p+1)).reverse (hdN k)++entN fs st sz s:=by rw [z3S hs,z5F];rfl
 obtain ⟨x,hx⟩ : ∃ x,x=putN fs st sz (l.drop (p+1)).reverse (hdN k):=⟨_,rfl⟩
 rw [← hx] at hst hbx
 rw [hqp,← hx]
 obtain ⟨n1,n2⟩:=z0y fs st sz s hl
 have hdc:=z4P (qw fs st sz s) (by omega) (by omega)
 have hdl:=z2A (x:=qw fs st sz s) (by omega) (by omega)
 have hln:=hln s
 have hnm:=z4u hn s
 have e1:(⟨#[32,32,32,32]⟩ : ByteArray).size=4:=rfl
 have e2:(⟨#[58]⟩ : ByteArray).size=1:=rfl
 have e3:(⟨#[10]⟩ : ByteArray).size=1:=rfl
 obtain ⟨t0,et0⟩ : ∃ z9:ByteArray,x++(⟨#[32,32,32,32]⟩ : ByteArray)=z9:=⟨_,rfl⟩
 have bt0:t0.size=(x).size+((⟨#[32,32,32,32]⟩ : ByteArray)).size:=by rw [← et0,ByteArray.size_append]
 have ct0:((x).size+((⟨#[32,32,32,32]⟩ : ByteArray)).size≤9223372036854775807)=True:=eq_true (by omega)
 obtain ⟨t1,et1⟩ : ∃ z9:ByteArray,t0++nmN fs s=z9:=⟨_,rfl⟩
 have bt1:t1.size=(t0).size+(nmN fs s).size:=by rw [← et1,ByteArray.size_append]
 have ct1:((t0).size+(nmN fs s).size≤9223372036854775807)=True:=eq_true (by omega)
 obtain ⟨t2,et2⟩ : ∃ z9:ByteArray,t1++(⟨#[58]⟩ : ByteArray)=z9:=⟨_,rfl⟩
 have bt2:t2.size=(t1).size+((⟨#[58]⟩ : ByteArray)).size:=by rw [← et2,ByteArray.size_append]
 have ct2:((t1).size+((⟨#[58]⟩ : ByteArray)).size≤9223372036854775807)=True:=eq_true (by omega)
 obtain ⟨t3,et3⟩ : ∃ z9:ByteArray,t2++dI (qw fs st sz s)=z9:=⟨_,rfl⟩
 have bt3:t3.size=(t2).size+(dI (qw fs st sz s)).size:=by rw [← et3,ByteArray.size_append]
 have ct3:((t2).size+(dI (qw fs st sz s)).size≤9223372036854775807)=True:=eq_true (by omega)
 obtain ⟨t4,et4⟩ : ∃ z9:ByteArray,t3++(⟨#[10]⟩ : ByteArray)=z9:=⟨_,rfl⟩
 have bt4:t4.size=(t3).size+((⟨#[10]⟩ : ByteArray)).size:=by rw [← et4,ByteArray.size_append]
 have ct4:((t3).size+((⟨#[10]⟩ : ByteArray)).size≤9223372036854775807)=True:=eq_true (by omega)
 have hres:x++entN fs st sz s=t4:=by
  rw [← et4,← et3,← et2,← et1,← et0,entN]
  simp only [z3H]
 rw [hres] at hst
 by_cases a1:s.1<0
 ·have g1:decide (0≤s.1)=false:=by simpa using a1
  have hnn:nmN fs s=⟨#[63]⟩:=by simp [nmN,z0B a1]
  rw [hnn] at et1 ct1
  repeat' (first|refine T.zk fun K hK=>?_|apply T.block|(refine T.reg (by kernel_rfl) fun K' hK'=>?_;simp only [bz];(with_reducible repeat' (first|(apply WL.fin;apply hK';clear hK' K')|(refine WL.step fun K2 hK2=>?_;simp only [simprocAttr,implies_true,amz,zb,tys,hd];repeat' (first|(apply hK2;clear hK2 K2)|apply And.intro|intro hb)))))|apply T.skip|apply T.exit|refine T.zf rfl ?_|refine T.ze rfl ?_|refine T.cond rfl (fun hc=>?_) (fun hc=>?_)|apply T.ret|simp only [za,z8,reduceIte,Nat.reduceEqDiff]|((repeat ((fail_if_success apply hK);clear hK K));apply hK;clear hK K))
  refine T.drw 16 (by kernel_rfl) (by kernel_rfl) fun K' hK'=>?_;simp only [List.map_cons,List.map_nil];(repeat' (first|(with_reducible refine WL.fin ?_;apply hK';clear hK' K')|(with_reducible refine WD.fin ?_)|((with_reducible first|refine WL.step fun K2 hK2=>?_|refine WD.step fun K2 hK2=>?_);simp only [simprocAttr,implies_true,amz,zb,tys,hp0,Int.toNat_natCast,m1,g1];(repeat' with_reducible (first|(apply hK2;clear hK2 K2)|apply And.intro|intro hb)))));all_goals ((try simp only [za,z8,reduceIte,Nat.reduceEqDiff]);(try ((repeat ((fail_if_success apply hK);clear hK K));apply hK;clear hK K)))
  all_goals repeat' (first|refine T.zk fun K hK=>?_|apply T.block|(refine T.reg (by kernel_rfl) fun K' hK'=>?_;simp only [bz];(with_reducible repeat' (first|(apply WL.fin;apply hK';clear hK' K')|(refine WL.step fun K2 hK2=>?_;simp only [simprocAttr,implies_true,amz,zb,tys];repeat' (first|(apply hK2;clear hK2 K2)|apply And.intro|intro hb)))))|apply T.skip|apply T.exit|refine T.zf rfl ?_|refine T.ze rfl ?_|refine T.cond rfl (fun hc=>?_) (fun hc=>?_)|apply T.ret|simp only [za,z8,reduceIte,Nat.reduceEqDiff]|((repeat ((fail_if_success apply hK);clear hK K));apply hK;clear hK K))
  refine T.drw 15 (by kernel_rfl) (by kernel_rfl) fun K' hK'=>?_;simp only [List.map_cons,List.map_nil];(repeat' (first|(with_reducible refine WL.fin ?_;apply hK';clear hK' K')|(with_reducible refine WD.fin ?_)|((with_reducible first|refine WL.step fun K2 hK2=>?_|refine WD.step fun K2 hK2=>?_);simp only [simprocAttr,implies_true,amz,zb,tys,hp0,Int.toNat_natCast,m1,et0,ct0,et1,ct1,et2,ct2,et3,ct3,et4,ct4];(repeat' (first|with_reducible (first|(apply hK2;clear hK2 K2)|apply And.intro|intro hb)|((with_reducible first|apply zh|apply zl);case h=>exact CallV.plain (Ent.of Tryd.func14 (by kernel_rfl) rfl) (hln) (by simp [AV.okB]))|((with_reducible first|apply zh|apply zl);case h=>exact CallV.plain (Ent.of Tryd.func40 (by kernel_rfl) rfl) (hdc) (by simp [AV.okB])))))));all_goals ((try simp only [za,z8,reduceIte,Nat.reduceEqDiff]);(try ((repeat ((fail_if_success apply hK);clear hK K));apply hK;clear hK K)))
  all_goals repeat' (first|refine T.zk fun K hK=>?_|apply T.block|(refine T.reg (by kernel_rfl) fun K' hK'=>?_;simp only [bz];(with_reducible repeat' (first|(apply WL.fin;apply hK';clear hK' K')|(refine WL.step fun K2 hK2=>?_;simp only [simprocAttr,implies_true,amz,zb,tys,w1];repeat' (first|(apply hK2;clear hK2 K2)|apply And.intro|intro hb)))))|apply T.skip|apply T.exit|refine T.zf rfl ?_|refine T.ze rfl ?_|refine T.cond rfl (fun hc=>?_) (fun hc=>?_)|apply T.ret|simp only [za,z8,reduceIte,Nat.reduceEqDiff]|((repeat ((fail_if_success apply hK);clear hK K));apply hK;clear hK K))
  refine hKL _ p (by refine zi.of' rfl ?_;simp only [wks,reduceIte,Nat.reduceEqDiff,ASt.okB,AV.okB,Nat.reduceLT,implies_true,hst]) (by omega) (by omega)
 have g1:decide (0≤s.1)=true:=by simpa using a1
 by_cases a2:s.1<(fs.length:Int)
 ·have g2:decide (s.1<(fs.length:Int))=true:=by simpa using a2
  obtain ⟨f,hf,hf2⟩:=z1k (l:=fs) (i:=s.1) (by omega) a2
  have mf:=z6n hf2
  have i1:(0≤s.1)=True:=eq_true (by omega)
  have hnn:nmN fs s=f.name:=by simp [nmN,hf]
  rw [hnn] at et1 ct1
  repeat' (first|refine T.zk fun K hK=>?_|apply T.block|(refine T.reg (by kernel_rfl) fun K' hK'=>?_;simp only [bz];(with_reducible repeat' (first|(apply WL.fin;apply hK';clear hK' K')|(refine WL.step fun K2 hK2=>?_;simp only [simprocAttr,implies_true,amz,zb,tys,hd];repeat' (first|(apply hK2;clear hK2 K2)|apply And.intro|intro hb)))))|apply T.skip|apply T.exit|refine T.zf rfl ?_|refine T.ze rfl ?_|refine T.cond rfl (fun hc=>?_) (fun hc=>?_)|apply T.ret|simp only [za,z8,reduceIte,Nat.reduceEqDiff]|((repeat ((fail_if_success apply hK);clear hK K));apply hK;clear hK K))
  refine T.drw 16 (by kernel_rfl) (by kernel_rfl) fun K' hK'=>?_;simp only [List.map_cons,List.map_nil];(repeat' (first|(with_reducible refine WL.fin ?_;apply hK';clear hK' K')|(with_reducible refine WD.fin ?_)|((with_reducible first|refine WL.step fun K2 hK2=>?_|refine WD.step fun K2 hK2=>?_);simp only [simprocAttr,implies_true,amz,zb,tys,hp0,Int.toNat_natCast,m1,hfl,g1,g2];(repeat' with_reducible (first|(apply hK2;clear hK2 K2)|apply And.intro|intro hb)))));all_goals ((try simp only [za,z8,reduceIte,Nat.reduceEqDiff]);(try ((repeat ((fail_if_success apply hK);clear hK K));apply hK;clear hK K)))
  all_goals repeat' (first|refine T.zk fun K hK=>?_|apply T.block|(refine T.reg (by kernel_rfl) fun K' hK'=>?_;simp only [bz];(with_reducible repeat' (first|(apply WL.fin;apply hK';clear hK' K')|(refine WL.step fun K2 hK2=>?_;simp only [simprocAttr,implies_true,amz,zb,tys];repeat' (first|(apply hK2;clear hK2 K2)|apply And.intro|intro hb)))))|apply T.skip|apply T.exit|refine T.zf rfl ?_|refine T.ze rfl ?_|refine T.cond rfl (fun hc=>?_) (fun hc=>?_)|apply T.ret|simp only [za,z8,reduceIte,Nat.reduceEqDiff]|((repeat ((fail_if_success apply hK);clear hK K));apply hK;clear hK K))
  refine T.drw 9 (by kernel_rfl) (by kernel_rfl) fun K' hK'=>?_;simp only [List.map_cons,List.map_nil];(repeat' (first|(with_reducible refine WL.fin ?_;apply hK';clear hK' K')|(with_reducible refine WD.fin ?_)|((with_reducible first|refine WL.step fun K2 hK2=>?_|refine WD.step fun K2 hK2=>?_);simp only [simprocAttr,implies_true,amz,zb,tys,hp0,Int.toNat_natCast,m1,mf,i1];(repeat' with_reducible (first|(apply hK2;clear hK2 K2)|apply And.intro|intro hb)))));all_goals ((try simp only [za,z8,reduceIte,Nat.reduceEqDiff]);(try ((repeat ((fail_if_success apply hK);clear hK K));apply hK;clear hK K)))
  all_goals repeat' (first|refine T.zk fun K hK=>?_|apply T.block|(refine T.reg (by kernel_rfl) fun K' hK'=>?_;simp only [bz];(with_reducible repeat' (first|(apply WL.fin;apply hK';clear hK' K')|(refine WL.step fun K2 hK2=>?_;simp only [simprocAttr,implies_true,amz,zb,tys];repeat' (first|(apply hK2;clear hK2 K2)|apply And.intro|intro hb)))))|apply T.skip|apply T.exit|refine T.zf rfl ?_|refine T.ze rfl ?_|refine T.cond rfl (fun hc=>?_) (fun hc=>?_)|apply T.ret|simp only [za,z8,reduceIte,Nat.reduceEqDiff]|((repeat ((fail_if_success apply hK);clear hK K));apply hK;clear hK K))
  refine T.drw 15 (by kernel_rfl) (by kernel_rfl) fun K' hK'=>?_;simp only [List.map_cons,List.map_nil];(repeat' (first|(with_reducible refine WL.fin ?_;apply hK';clear hK' K')|(with_reducible refine WD.fin ?_)|((with_reducible first|refine WL.step fun K2 hK2=>?_|refine WD.step fun K2 hK2=>?_);simp only [simprocAttr,implies_true,amz,zb,tys,hp0,Int.toNat_natCast,m1,et0,ct0,et1,ct1,et2,ct2,et3,ct3,et4,ct4];(repeat' (first|with_reducible (first|(apply hK2;clear hK2 K2)|apply And.intro|intro hb)|((with_reducible first|apply zh|apply zl);case h=>exact CallV.plain (Ent.of Tryd.func14 (by kernel_rfl) rfl) (hln) (by simp [AV.okB]))|((with_reducible first|apply zh|apply zl);case h=>exact CallV.plain (Ent.of Tryd.func40 (by kernel_rfl) rfl) (hdc) (by simp [AV.okB])))))));all_goals ((try simp only [za,z8,reduceIte,Nat.reduceEqDiff]);(try ((repeat ((fail_if_success apply hK);clear hK K));apply hK;clear hK K)))
  all_goals repeat' (first|refine T.zk fun K hK=>?_|apply T.block|(refine T.reg (by kernel_rfl) fun K' hK'=>?_;simp only [bz];(with_reducible repeat' (first|(apply WL.fin;apply hK';clear hK' K')|(refine WL.step fun K2 hK2=>?_;simp only [simprocAttr,implies_true,amz,zb,tys,w1];repeat' (first|(apply hK2;clear hK2 K2)|apply And.intro|intro hb)))))|apply T.skip|apply T.exit|refine T.zf rfl ?_|refine T.ze rfl ?_|refine T.cond rfl (fun hc=>?_) (fun hc=>?_)|apply T.ret|simp only [za,z8,reduceIte,Nat.reduceEqDiff]|((repeat ((fail_if_success apply hK);clear hK K));apply hK;clear hK K))
  refine hKL _ p (by refine zi.of' rfl ?_;simp only [wks,reduceIte,Nat.reduceEqDiff,ASt.okB,AV.okB,Nat.reduceLT,implies_true,hst]) (by omega) (by omega)
 ·have g2:decide (s.1<(fs.length:Int))=false:=by simpa using a2
  have hnn:nmN fs s=⟨#[63]⟩:=by simp [nmN,z1l (Int.not_lt.1 a2)]
  rw [hnn] at et1 ct1
  repeat' (first|refine T.zk fun K hK=>?_|apply T.block|(refine T.reg (by kernel_rfl) fun K' hK'=>?_;simp only [bz];(with_reducible repeat' (first|(apply WL.fin;apply hK';clear hK' K')|(refine WL.step fun K2 hK2=>?_;simp only [simprocAttr,implies_true,amz,zb,tys,hd];repeat' (first|(apply hK2;clear hK2 K2)|apply And.intro|intro hb)))))|apply T.skip|apply T.exit|refine T.zf rfl ?_|refine T.ze rfl ?_|refine T.cond rfl (fun hc=>?_) (fun hc=>?_)|apply T.ret|simp only [za,z8,reduceIte,Nat.reduceEqDiff]|((repeat ((fail_if_success apply hK);clear hK K));apply hK;clear hK K))
  refine T.drw 16 (by kernel_rfl) (by kernel_rfl) fun K' hK'=>?_;simp only [List.map_cons,List.map_nil];(repeat' (first|(with_reducible refine WL.fin ?_;apply hK';clear hK' K')|(with_reducible refine WD.fin ?_)|((with_reducible first|refine WL.step fun K2 hK2=>?_|refine WD.step fun K2 hK2=>?_);simp only [simprocAttr,implies_true,amz,zb,tys,hp0,Int.toNat_natCast,m1,hfl,g1,g2];(repeat' with_reducible (first|(apply hK2;clear hK2 K2)|apply And.intro|intro hb)))));all_goals ((try simp only [za,z8,reduceIte,Nat.reduceEqDiff]);(try ((repeat ((fail_if_success apply hK);clear hK K));apply hK;clear hK K)))
  all_goals repeat' (first|refine T.zk fun K hK=>?_|apply T.block|(refine T.reg (by kernel_rfl) fun K' hK'=>?_;simp only [bz];(with_reducible repeat' (first|(apply WL.fin;apply hK';clear hK' K')|(refine WL.step fun K2 hK2=>?_;simp only [simprocAttr,implies_true,amz,zb,tys];repeat' (first|(apply hK2;clear hK2 K2)|apply And.intro|intro hb)))))|apply T.skip|apply T.exit|refine T.zf rfl ?_|refine T.ze rfl ?_|refine T.cond rfl (fun hc=>?_) (fun hc=>?_)|apply T.ret|simp only [za,z8,reduceIte,Nat.reduceEqDiff]|((repeat ((fail_if_success apply hK);clear hK K));apply hK;clear hK K))
  refine T.drw 15 (by kernel_rfl) (by kernel_rfl) fun K' hK'=>?_;simp only [List.map_cons,List.map_nil];(repeat' (first|(with_reducible refine WL.fin ?_;apply hK';clear hK' K')|(with_reducible refine WD.fin ?_)|((with_reducible first|refine WL.step fun K2 hK2=>?_|refine WD.step fun K2 hK2=>?_);simp only [simprocAttr,implies_true,amz,zb,tys,hp0,Int.toNat_natCast,m1,et0,ct0,et1,ct1,et2,ct2,et3,ct3,et4,ct4];(repeat' (first|with_reducible (first|(apply hK2;clear hK2 K2)|apply And.intro|intro hb)|((with_reducible first|apply zh|apply zl);case h=>exact CallV.plain (Ent.of Tryd.func14 (by kernel_rfl) rfl) (hln) (by simp [AV.okB]))|((with_reducible first|apply zh|apply zl);case h=>exact CallV.plain (Ent.of Tryd.func40 (by kernel_rfl) rfl) (hdc) (by simp [AV.okB])))))));all_goals ((try simp only [za,z8,reduceIte,Nat.reduceEqDiff]);(try ((repeat ((fail_if_success apply hK);clear hK K));apply hK;clear hK K)))
  all_goals repeat' (first|refine T.zk fun K hK=>?_|apply T.block|(refine T.reg (by kernel_rfl) fun K' hK'=>?_;simp only [bz];(with_reducible repeat' (first|(apply WL.fin;apply hK';clear hK' K')|(refine WL.step fun K2 hK2=>?_;simp only [simprocAttr,implies_true,amz,zb,tys,w1];repeat' (first|(apply hK2;clear hK2 K2)|apply And.intro|intro hb)))))|apply T.skip|apply T.exit|refine T.zf rfl ?_|refine T.ze rfl ?_|refine T.cond rfl (fun hc=>?_) (fun hc=>?_)|apply T.ret|simp only [za,z8,reduceIte,Nat.reduceEqDiff]|((repeat ((fail_if_success apply hK);clear hK K));apply hK;clear hK K))
  refine hKL _ p (by refine zi.of' rfl ?_;simp only [wks,reduceIte,Nat.reduceEqDiff,ASt.okB,AV.okB,Nat.reduceLT,implies_true,hst]) (by omega) (by omega)
end Go.Proofs.YtbkkginjfnjffaaDoor
namespace Go.Proofs
open Go.Shelf Go.RowKit
def YtbkkginjfnjffaaDoor.itoaL_ren:Go.Shelf.Ren:=⟨fun | 171 => 35 | 243 => 57 | 246 => 69 | 283 => 81 | 284 => 82 | 285 => 83 | 286 => 84 | 129 => 80 | 317 => 90 | 318 => 91 | 319 => 92 | 320 => 93 | 337 => 95 | 338 => 96|n=>n,fun | 3 => 3 | 9 => 9 | 2 => 2 | 4 => 4 | 171 => 147 | 0 => 0 | 53 => 124 | 37 => 93 | 5 => 5 | 173 => 149 | 212 => 159 | 51 => 145 | 20 => 20 | 213 => 160 | 46 => 132 | 232 => 163 | 233 => 164|n=>n,fun | 17 => 0 | 18 => 1 | 19 => 2|n=>n⟩
theorem YtbkkginjfnjffaaDoor.itoaL:Go.Proofs.LaysM.n171 Tryd.prog YtbkkginjfnjffaaDoor.itoaL_ren := {
 mixed:=by kernel_rfl
 f129:=Tryd.func80.trans (congrArg some (by kernel_rfl))
 f171:=Tryd.func35.trans (congrArg some (by kernel_rfl))
 f243:=Tryd.func57.trans (congrArg some (by kernel_rfl))
 f246:=Tryd.func69.trans (congrArg some (by kernel_rfl))
 f283:=Tryd.func81.trans (congrArg some (by kernel_rfl))
 f284:=Tryd.func82.trans (congrArg some (by kernel_rfl))
 f285:=Tryd.func83.trans (congrArg some (by kernel_rfl))
 f286:=Tryd.func84.trans (congrArg some (by kernel_rfl))
 f317:=Tryd.func90.trans (congrArg some (by kernel_rfl))
 f318:=Tryd.func91.trans (congrArg some (by kernel_rfl))
 f319:=Tryd.func92.trans (congrArg some (by kernel_rfl))
 f320:=Tryd.func93.trans (congrArg some (by kernel_rfl))
 f337:=Tryd.func95.trans (congrArg some (by kernel_rfl))
 f338:=Tryd.func96.trans (congrArg some (by kernel_rfl))
 t0:=Tryd.underlying0
 a0:=Tryd.isAgg0
 z0:=Tryd.sizeOf0
 v0:=Tryd.zeroValue0
 t2:=Tryd.underlying2
 a2:=Tryd.isAgg2
 z2:=Tryd.sizeOf2
 v2:=Tryd.zeroValue2
 t3:=Tryd.underlying3
 a3:=Tryd.isAgg3
 z3:=Tryd.sizeOf3
 v3:=Tryd.zeroValue3
 t4:=Tryd.underlying4
 a4:=Tryd.isAgg4
 z4:=Tryd.sizeOf4
 v4:=Tryd.zeroValue4
 t5:=Tryd.underlying5
 a5:=Tryd.isAgg5
 z5:=Tryd.sizeOf5
 v5:=Tryd.zeroValue5
 t9:=Tryd.underlying9
 a9:=Tryd.isAgg9
 z9:=Tryd.sizeOf9
 v9:=Tryd.zeroValue9
 t20:=Tryd.underlying20
 a20:=Tryd.isAgg20
 z20:=Tryd.sizeOf20
 v20:=Tryd.zeroValue20
 t37:=Tryd.underlying93
 a37:=Tryd.isAgg93
 z37:=Tryd.sizeOf93
 v37:=Tryd.zeroValue93
 t46:=Tryd.underlying132
 a46:=Tryd.isAgg132
 z46:=Tryd.sizeOf132
 v46:=Tryd.zeroValue132
 t51:=Tryd.underlying145
 a51:=Tryd.isAgg145
 z51:=Tryd.sizeOf145
 v51:=Tryd.zeroValue145
 t53:=Tryd.underlying124
 a53:=Tryd.isAgg124
 z53:=Tryd.sizeOf124
 v53:=Tryd.zeroValue124
 t171:=Tryd.underlying147
 a171:=Tryd.isAgg147
 z171:=Tryd.sizeOf147
 v171:=Tryd.zeroValue147
 t173:=Tryd.underlying149
 a173:=Tryd.isAgg149
 z173:=Tryd.sizeOf149
 v173:=Tryd.zeroValue149
 t212:=Tryd.underlying159
 a212:=Tryd.isAgg159
 z212:=Tryd.sizeOf159
 v212:=Tryd.zeroValue159
 t213:=Tryd.underlying160
 a213:=Tryd.isAgg160
 z213:=Tryd.sizeOf160
 t232:=Tryd.underlying163
 a232:=Tryd.isAgg163
 z232:=Tryd.sizeOf163
 v232:=Tryd.zeroValue163
 t233:=Tryd.underlying164
 a233:=Tryd.isAgg164
 z233:=Tryd.sizeOf164
 v233:=Tryd.zeroValue164
 g17:=by kernel_rfl
 g18:=by kernel_rfl
 g19:=by kernel_rfl
 i0:=by kernel_rfl
 i2:=by kernel_rfl
 i3:=by kernel_rfl
 i4:=by kernel_rfl
 i5:=by kernel_rfl
 i9:=by kernel_rfl
 i20:=by kernel_rfl
 i37:=by kernel_rfl
 i46:=by kernel_rfl
 i51:=by kernel_rfl
 i53:=by kernel_rfl
 i171:=by kernel_rfl
 i173:=by kernel_rfl
 i212:=by kernel_rfl
 i232:=by kernel_rfl
 i233:=by kernel_rfl
 m17:=by kernel_rfl
 m18:=by kernel_rfl
 m19:=by kernel_rfl }
end Go.Proofs
namespace Go.Proofs.YtbkkginjfnjffaaDoor
open Go.RowKit Go.Sort Go.Shelf
def z08 (l:List Value):List AV:=l.map fun v => .p (.val v)
def z3q:List Value:=Go.Lib.pow10Tab.map fun z => .int .u64 z
def hpG:Hp := [(1000000,.boxP (some 0) 159 (z08 z3q))]
theorem z0I:Plain hpG:=fun t o h=>by
 unfold hpG at h
 rw [zm,qy] at h
 split at h
 ·cases h;exact ⟨_,_,_,rfl⟩
 ·cases h
theorem zo (us:List Value) (n:Nat):(z08 us).all (AV.okB n)=true:=by
 simp [z08,AV.okB]
theorem z0t {s:ASt} {N:Nat} (hN : 1000000<N) (h : ∀ t o,hpG.lookup t=some o→s.hp.lookup t=some o):z8i s N hpG:=fun t o ho=>⟨h t o ho,by
 obtain ⟨p,ty,us,rfl⟩:=z0I t o ho
 exact zo us 0,by
 unfold hpG at ho
 rw [zm,qy] at ho
 split at ho
 ·omega
 ·cases ho⟩
theorem z7m {L:Nat→Prop} {N:Nat} {hp:Hp} {loc:Nat→Option Value} {w:World} (h:HRel L N hp loc w) {t g:Nat} {ty:TypeId} {us:List Value} (ho:hp.lookup t=some (.boxP (some g) ty (z08 us))):w.heap[g]? = some (.cells us.toArray ty (0,0)):=by
 obtain ⟨_,u,_,b,arr,rfl,g2,g3,g4,_,g5⟩:=h.at' t _ ho
 obtain rfl:=g5 g rfl
 rw [g2]
 have:arr=us.toArray:=by
  apply Array.ext
  ·rw [g3];simp [z08]
  ·intro j j1 j2
   have hj:j<us.length:=by simpa using j2
   have e1:=(g4 j (.p (.val us[j])) (by simp [z08,hj])).val
   rw [Array.getD_eq_getD_getElem?,Array.getElem?_eq_getElem j1] at e1
   simp only [Option.getD_some] at e1
   rw [e1]
   simp
 rw [this]
theorem grow_blw (w:World) (k:Nat) (os:Array Obj):Blw w.heap.size w (grow (w.drewN k) os) :=
 ⟨⟨rfl,rfl,rfl,by simp [grow,World.drewN],fun j hj=>by simp [grow,World.drewN,Array.getElem?_append,hj]⟩⟩
theorem z8t {x : Int} (h0 : -9223372036854775808 ≤ x) (h1 : x < 9223372036854775808) : z3Z Tryd.prog 35 1000001 hpG [.int x] (.string (dI x)) := fun L loc w vs hh hvs => by
  obtain ⟨v, rfl⟩ : ∃ v, vs = [v] := by
    match vs, hvs.1 with
    | [v], _ => exact ⟨v, rfl⟩
  obtain rfl := (hvs.2 0 _ v rfl rfl).val
  have htab : Go.Lib.TabIs Tryd.prog w "internal/strconv.uint64pow10" .u64 Go.Lib.pow10Tab := by
    unfold Go.Lib.TabIs World.var?
    rw [show Tryd.prog.globalNamed "internal/strconv.uint64pow10" = some 0 by kernel_rfl]
    simp only [Option.bind_some]
    rw [z7m hh (t := 1000000) (g := 0) rfl]
    rfl
  refine Calls.mono (Any.strconv_Itoa itoaL x h0 (by omega) w htab) ?_
  rintro e w' ⟨rfl, k, os, rfl⟩
  exact ⟨rfl, grow_blw w k os⟩
theorem szB:(Tryd.prog.info? 95).map (·.size)=some 2:=by kernel_rfl
theorem liB:liesAt Tryd.prog Tryd.prog.depth 95 (2 / Tryd.prog.cellsOf 95) 0 95 1=true:=by kernel_rfl
theorem uPB:Tryd.prog.underlying 92=some (.pointer 95):=by kernel_rfl
theorem uUP:Tryd.prog.underlying 135=some .unsafePointer:=by kernel_rfl
theorem cc_used (b:Nat) (w:World) (h0:w.cell? ⟨b,0,none⟩=some (.pointer (some ⟨b,0,none⟩))) :
  Calls Tryd.prog 58 #[.pointer (some ⟨b,0,none⟩)] w fun e w'=>e = .returned (.tuple #[])∧w' = w:=by
 obtain ⟨j,hj,_⟩:=Option.map_eq_some_iff.1 szB
 go_enter Tryd.func58,Tryd.ntmps58
 go_wp2
 rw [Go.Lib.run_neq_ptr_same w _ uPB hj]
 go_wp2
 go_end0
 exact ⟨rfl,rfl⟩
theorem cc_fresh (b:Nat) (w:World) (h0:w.cell? ⟨b,0,none⟩=some (.pointer none)) (hsh:w.shape? b=some (95,2)) (hfz:w.frozen? ⟨b,0,none⟩=false) :
  Calls Tryd.prog 58 #[.pointer (some ⟨b,0,none⟩)] w fun e w'=>e = .returned (.tuple #[])∧w' = w.setCell ⟨b,0,none⟩ (.pointer (some ⟨b,0,none⟩)):=by
 obtain ⟨j,hj,hjs⟩:=Option.map_eq_some_iff.1 szB
 go_enter Tryd.func58,Tryd.ntmps58
 go_wp2
 rw [Go.Lib.run_to_unsafe w ⟨b,0,none⟩ uPB uUP hj (by rw [hjs];decide) hsh (Nat.zero_lt_succ 1)]
 simp only [Result.andThen]
 rw [Oper.upon_value]
 go_wp2
 rw [run_callFunc_extern Tryd.func70 (by kernel_rfl) (by kernel_rfl) (by kernel_rfl) (e:=Extern.AbiNoEscape.same) (by kernel_rfl)]
 rw [Go.Lib.run_noEscape]
 simp only [Result.andThen]
 rw [Oper.upon_value]
 go_wp2
 rw [Go.Lib.run_from_unsafe w ⟨b,0,none⟩ uUP uPB hj hsh liB]
 simp only [Result.andThen]
 rw [Oper.upon_value]
 go_wp2
 go_end0
 exact ⟨rfl,rfl⟩
def hpB (q:Nat) (x:AV) (bs:List UInt8):Hp := [(0,.boxP (some q) 95 [x,.own 1]),(1,.row 5 1 (z0v bs))]
theorem z6g (bs:List UInt8):(z0v bs).length=bs.length:=by simp [z0v]
theorem z7J {L:Nat→Prop} {N:Nat} {loc:Nat→Option Value} {w:World} {x:AV} {bs:List UInt8} {q:Nat} (hh:HRel L N (hpB q x bs) loc w) : ∃ p v,loc 0=some (.pointer (some ⟨q,0,none⟩))∧w.heap[q]? = some (.cells #[p,v] 95 (0,0))∧AR N (Dm L loc) loc w x p∧loc 1=some v∧p.oneCell' = true ∧
  w.ownsRow 0 5 1 v bs.length (Go.Lib.byteCells bs):=by
 obtain ⟨h1,u,h2,b,arr,rfl,h3,h4,h5,h6,h7⟩:=hh.at' 0 _ rfl
 obtain rfl:=h7 q rfl
 obtain ⟨k1,v,k2,flat,k3,k4,k5,k6⟩:=hh.at' 1 _ rfl
 obtain ⟨p,v',rfl⟩ : ∃ p v',arr = #[p,v']:=by
  match arr,h4 with
  | ⟨[p,v']⟩,_=>exact ⟨p,v',rfl⟩
 have a0:=h5 0 x rfl
 have a1:=h5 1 (.own 1) rfl
 have c0:=h6 0 (by simp)
 simp only [Array.getD_eq_getD_getElem?] at a0 a1 c0
 cases a1 with
 | own _ _ _ _ hv =>
 have e:v' = v:=hv v k2
 refine ⟨p,v,h2,by rw [h3,show v' = v from e],a0,k2,c0,?_⟩
 rw [z6g] at k3
 have hf:flat=Go.Lib.byteCells bs:=by
  apply List.ext_getElem?
  intro j
  by_cases hj:j<bs.length
  ·have hr:(z0v bs)[j]? = some [.val (.int .u8 (bs[j]).toNat)]:=by simp [z0v,hj]
   obtain ⟨z,z1,z2⟩:=k5 j _ 0 _ hr rfl
   have:=(AR.p (N := 0) (loc:=z2C) _ _ z2).val
   rw [this,Nat.mul_one,Nat.add_zero] at z1
   rw [z1]
   simp [Go.Lib.byteCells,hj]
  ·have e1:flat.length=bs.length:=by rw [k3.1,Nat.mul_one]
   rw [List.getElem?_eq_none (by omega),List.getElem?_eq_none (by simp [Go.Lib.byteCells];omega)]
 rw [← hf]
 exact k3
theorem z8J (w:World) (b j:Nat) (v:Value):Kp (fun k=>k=b) w (w.setCell ⟨b,j,none⟩ v) :=
 ⟨rfl,rfl,rfl,by simp [World.setCell],fun k _ hk=>Below.heap_setCell _ _ _ _ (fun e=>hk (by simpa using e))⟩
theorem z8n (b:Nat) (x:AV) (bs:List UInt8) (hx:x = .p (.val (.pointer none))∨x = .ptr 0 0):MemC Tryd.prog 58 2 (hpB b x bs) [.ptr 0 0] fun hp' r=>hp' = hpB b (.ptr 0 0) bs∧r = .tup []:=fun L loc w vs hh hvs=>by
 obtain ⟨v0,rfl⟩ : ∃ v0,vs = [v0]:=by
  match vs,hvs.1 with
  | [v0],_=>exact ⟨v0,rfl⟩
 obtain ⟨p,v,l0,hbk,hp,l1,hp1,hown⟩:=z7J hh
 have h0:=hvs.2 0 _ v0 rfl rfl
 cases h0 with
 | ptr _ _ _ _ _ hv =>
 obtain rfl:=hv b l0
 have t0:AR 2 (Dm L loc) loc w (.tup []) (.tuple #[]) := .tup [] #[] rfl (fun j x hx=>by simp at hx)
 have box : ∀ (w' : World),w'.heap[b]? = some (.cells #[.pointer (some ⟨b,0,none⟩),v] 95 (0,0))→Kp (fun k=>k=b) w w' → HRel L 2 (hpB b (.ptr 0 0) bs) loc w':=fun w' hb' hk =>
  hh.turn (t := 0) rfl l0 rfl hk ⟨b,_,rfl,hb',rfl,fun j y hy=>by
   match j,hy with
   | 0,hy=>cases hy;exact .ptr 0 0 _ (by omega) rfl fun b' hb2=>by rw [l0] at hb2;cases hb2;rfl
   | 1,hy=>cases hy;exact .own 1 _ (by omega) (by rcases hown.2 with ⟨rfl,_⟩|⟨_,_,_,rfl,_⟩ <;> rfl) fun u hu=>by rw [l1] at hu;cases hu;rfl,
   fun j hj=>by
    match j,hj with
    | 0,_=>rfl
    | 1,_=>rcases hown.2 with ⟨rfl,_⟩|⟨_,_,_,rfl,_⟩ <;> rfl,fun p e=>by cases e;rfl⟩
 rcases hx with rfl|rfl
 ·obtain rfl:=hp.val
  refine Calls.mono (cc_fresh b w (by simp [World.cell?,hbk]) (by simp [World.shape?,hbk]) (by simp [World.frozen?,hbk])) ?_
  rintro e w' ⟨rfl,rfl⟩
  have hk:=z8J w b 0 (.pointer (some ⟨b,0,none⟩))
  have hb' : (w.setCell ⟨b,0,none⟩ (.pointer (some ⟨b,0,none⟩))).heap[b]? = some (.cells #[.pointer (some ⟨b,0,none⟩),v] 95 (0,0)):=by simp [World.setCell,Array.getElem?_modify,hbk]
  exact ⟨_,loc,_,_,rfl,⟨rfl,rfl⟩,box _ hb' hk,.tup [] #[] rfl (fun j x hx=>by simp at hx),.turn l0 rfl hk⟩
 ·cases hp with
  | ptr _ _ _ _ _ hv' =>
  obtain rfl:=hv' b l0
  refine Calls.mono (cc_used b w (by simp [World.cell?,hbk])) ?_
  rintro e w' ⟨rfl,rfl⟩
  exact ⟨_,loc,_,_,rfl,⟨rfl,rfl⟩,hh,t0,Ext.refl _ _⟩
theorem sl9:isSl Tryd.prog 9=false:=by kernel_rfl
theorem cv_nil:cv .nilIface = .p (.val .nilIface):=rfl
theorem appS36:appS Tryd.prog 93 9=some 5:=by kernel_rfl
theorem z4I (q:Nat) (x:AV) (bs:List UInt8) (s:ByteArray) (hx:x = .p (.val (.pointer none))∨x = .ptr 0 0) (hl:bs.length+s.size≤140737488355328) :
  MemC Tryd.prog 36 2 (hpB q x bs) [.ptr 0 0,.str s] fun hp' r=>hp' = hpB q (.ptr 0 0) (bs++s.data.toList)∧r = .tup [.int s.size,.p (.val .nilIface)]:=by
 have hcc:=z8n q x bs hx
 have hl2:=z6g bs
 have happ:z0v bs++z0v s.data.toList=z0v (bs++s.data.toList):=by simp [z0v]
 simp only [hpB] at hcc ⊢
 rcases hx with rfl|rfl
 ·refine MemC.of Tryd.func36 rfl 19 rfl (by decide) ?_;simp only [qK,frOf]
  repeat' (first|refine T.zk fun K hK=>?_|apply T.block|(refine T.reg (by kernel_rfl) fun K' hK'=>?_;simp only [bz];(repeat' (first|(with_reducible refine WL.fin ?_;apply hK';clear hK' K')|((with_reducible refine WL.step fun K2 hK2=>?_);simp only [simprocAttr,implies_true,amz,zb,tys,appS36,hl2,hl,happ,cv_nil,sl9,Bool.false_eq_true];(repeat' (first|with_reducible (first|(apply hK2;clear hK2 K2)|apply And.intro|intro hb)|((with_reducible refine qg 2 _ _ [0] (Ent.of Tryd.func58 (by kernel_rfl) rfl) (hcc) ?_ ?_ ?_);(focus ((refine ⟨Nat.le_of_ble_eq_true rfl,?_,?_⟩ <;> simp only [pz,reduceIte,Nat.reduceEqDiff,AV.okB,Nat.reduceLT,]);done));(focus (simp [AV.okB];done));rintro hp' r ⟨rfl,rfl⟩;refine ⟨by simp [Kept,zm,AO.handle],?_⟩;simp only [cz,ASt.qh,AO.keep,Nat.reduceLeDiff,reduceIte,Nat.reduceEqDiff,])))))))|apply T.skip|apply T.exit|refine T.zf rfl ?_|refine T.ze rfl ?_|refine T.cond rfl (fun hc=>?_) (fun hc=>?_)|apply T.ret|simp only [za,z8,reduceIte,Nat.reduceEqDiff]|((repeat ((fail_if_success apply hK);clear hK K));apply hK;clear hK K))
  all_goals (refine FinM.ret (s':=⟨[(4,.int s.size),(5,.p (.val .nilIface))],hpB q (.ptr 0 0) (bs++s.data.toList),19,2⟩) (r := .tup [.int s.size,.p (.val .nilIface)]) (.inr rfl) Tryd.results36 (by refine zi.of' rfl ?_;simp only [wks,reduceIte,Nat.reduceEqDiff,ASt.okB,AV.okB,Nat.reduceLT,implies_true,hpB]) rfl ?_ ?_;(focus (simp only [zR,zA,zB,simprocAttr,implies_true,amz,zb,tys,];done)))
  all_goals exact ⟨rfl,rfl⟩
 ·refine MemC.of Tryd.func36 rfl 19 rfl (by decide) ?_;simp only [qK,frOf]
  repeat' (first|refine T.zk fun K hK=>?_|apply T.block|(refine T.reg (by kernel_rfl) fun K' hK'=>?_;simp only [bz];(repeat' (first|(with_reducible refine WL.fin ?_;apply hK';clear hK' K')|((with_reducible refine WL.step fun K2 hK2=>?_);simp only [simprocAttr,implies_true,amz,zb,tys,appS36,hl2,hl,happ,cv_nil,sl9,Bool.false_eq_true];(repeat' (first|with_reducible (first|(apply hK2;clear hK2 K2)|apply And.intro|intro hb)|((with_reducible refine qg 2 _ _ [0] (Ent.of Tryd.func58 (by kernel_rfl) rfl) (hcc) ?_ ?_ ?_);(focus ((refine ⟨Nat.le_of_ble_eq_true rfl,?_,?_⟩ <;> simp only [pz,reduceIte,Nat.reduceEqDiff,AV.okB,Nat.reduceLT,]);done));(focus (simp [AV.okB];done));rintro hp' r ⟨rfl,rfl⟩;refine ⟨by simp [Kept,zm,AO.handle],?_⟩;simp only [cz,ASt.qh,AO.keep,Nat.reduceLeDiff,reduceIte,Nat.reduceEqDiff,])))))))|apply T.skip|apply T.exit|refine T.zf rfl ?_|refine T.ze rfl ?_|refine T.cond rfl (fun hc=>?_) (fun hc=>?_)|apply T.ret|simp only [za,z8,reduceIte,Nat.reduceEqDiff]|((repeat ((fail_if_success apply hK);clear hK K));apply hK;clear hK K))
  all_goals (refine FinM.ret (s':=⟨[(4,.int s.size),(5,.p (.val .nilIface))],hpB q (.ptr 0 0) (bs++s.data.toList),19,2⟩) (r := .tup [.int s.size,.p (.val .nilIface)]) (.inr rfl) Tryd.results36 (by refine zi.of' rfl ?_;simp only [wks,reduceIte,Nat.reduceEqDiff,ASt.okB,AV.okB,Nat.reduceLT,implies_true,hpB]) rfl ?_ ?_;(focus (simp only [zR,zA,zB,simprocAttr,implies_true,amz,zb,tys,];done)))
  all_goals exact ⟨rfl,rfl⟩
theorem freeze_kp (w:World) (g n:Nat):Kp (fun k=>k=g) w (w.freeze ⟨g,0,none⟩ n):=by
 unfold World.freeze
 split
 ·exact Kp.refl _ _
 ·exact ⟨rfl,rfl,rfl,by simp,fun k hk hn=>by
   simp only [Array.getElem?_modify]
   rw [if_neg (fun e=>hn e.symm)]⟩
theorem shut_all {L:Nat→Prop} {N n:Nat} {hp:Hp} {loc:Nat→Option Value} {w w' : World} (hh:HRel L N hp loc w) (hs:w.heap.size≤w'.heap.size):HRel L n [] z2C w' :=
 ⟨fun t o h=>(by cases h),fun t h=>rfl,fun t t' u u' b h=>(by cases h),fun b hb=>Nat.lt_of_lt_of_le (hh.inL b hb) hs,fun t u b h=>(by cases h)⟩
theorem stringC (q:Nat) (x:AV) (bs:List UInt8) (hne:bs ≠ []):MemC Tryd.prog 39 2 (hpB q x bs) [.ptr 0 0] fun hp' r=>hp' = []∧r = .str ⟨bs.toArray⟩:=fun L loc w vs hh hvs=>by
 obtain ⟨v0,rfl⟩ : ∃ v0,vs = [v0]:=by
  match vs,hvs.1 with
  | [v0],_=>exact ⟨v0,rfl⟩
 obtain ⟨p,v,l0,hbk,hp,l1,hp1,hown⟩:=z7J hh
 have h0:=hvs.2 0 _ v0 rfl rfl
 cases h0 with
 | ptr _ _ _ _ _ hv =>
 obtain rfl:=hv q l0
 have hl0:bs.length ≠ 0:=by simpa using hne
 obtain ⟨g,cap,cur,rfl,hg,hnc,hcm,hcs⟩ : ∃ g cap cur,v = .slice (some ⟨g,0,none⟩) bs.length cap∧w.heap[g]? = some (.cells cur 5 (0,0))∧bs.length≤cap∧cap≤maxLen∧cur.size=cap:=by
  rcases hown.2 with ⟨_,hz⟩|⟨g,cap,cur,hv,_,a1,a2,a3,a4,_⟩
  ·exact absurd hz hl0
  ·exact ⟨g,cap,cur,hv,a1,a2,a3,by rw [a4,Nat.mul_one]⟩
 have c1:w.drew.cell? ⟨q,1,none⟩=some (.slice (some ⟨g,0,none⟩) bs.length cap):=by
  show w.cell? _=_
  simp [World.cell?,hbk]
 have hSD:(Builtin.unsafeSliceData_ #[93] 123 #[.slice (some ⟨g,0,none⟩) bs.length cap]).run Tryd.prog w.drew = .ok (.pointer (some ⟨g,0,none⟩)) w.drew:=Go.Lib.run_unsafeSliceData_row _ _ _ _ _ _ (by omega)
 have hUS:(Builtin.unsafeString_ #[123,3] 9 #[.pointer (some ⟨g,0,none⟩),.int .i64 bs.length]).run Tryd.prog w.drew = .ok (.string ⟨bs.toArray⟩) (w.drew.freeze ⟨g,0,none⟩ bs.length) :=
  Go.Lib.run_unsafeString_row w.drew 123 3 9 5 (by kernel_rfl) (by kernel_rfl) g cur.size (by show w.shape? g=_;simp [World.shape?,hg]) bs hne (by omega) (by unfold maxLen at hcm;omega) (fun j y hy =>
   hown.cells (g:=g) rfl j (.int .u8 y.toNat) (by simp [Go.Lib.byteCells,hy]))
 suffices H:Calls Tryd.prog 39 #[.pointer (some ⟨q,0,none⟩)] w fun e w'=>e = .returned (.string ⟨bs.toArray⟩)∧w' = w.drew.freeze ⟨g,0,none⟩ bs.length by
  refine Calls.mono H ?_
  rintro e w' ⟨rfl,rfl⟩
  have hk:=freeze_kp w.drew g bs.length
  refine ⟨_,z2C,[],_,rfl,⟨rfl,rfl⟩,shut_all hh hk.size,.qB _ rfl,⟨⟨hk.os,hk.tape,hk.output,hk.size,fun k hk' hn=>hk.block k hk' fun e=>hn (.inr ⟨1,_,l1,by rw [e];rfl⟩)⟩,fun b hb=>?_⟩⟩
  rcases hb with hb|⟨t,u,h1,_⟩
  ·exact hb.elim
  ·cases h1
 go_enter Tryd.func39,Tryd.ntmps39
 go_wp2
 go_region
 all_goals (go_wp2;go_ret;exact ⟨rfl,rfl⟩)
end Go.Proofs.YtbkkginjfnjffaaDoor
