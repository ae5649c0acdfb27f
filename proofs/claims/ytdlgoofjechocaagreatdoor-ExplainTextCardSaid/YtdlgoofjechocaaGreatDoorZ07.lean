/- Texts Pf, Pg, Vd, Vf, Pb, Pc, Pd, Qc, Sm, Ay, Po. -/
import Derived.Maps.OwnSet
import Derived.DeepKeys4
import Derived.Test.YtdlgoofjechocaaGreatDoorZ06
set_option maxHeartbeats 32000000
set_option maxRecDepth 100000
set_option linter.unusedSimpArgs false
set_option linter.unusedVariables false
namespace Go.Proofs.YtdlgoofjechocaaGreatDoor
open Go.RowKit Go.Sort Go.Maps
theorem Tryz.laidOut:laidOutB Tryz.prog=true:=by kernel_rfl
theorem qw:Keyed Tryz.prog 3:=int_keyed (q := .i64) (by kernel_rfl)
def inI (a:Int):Prop := 0≤a∧a<9223372036854775808
theorem inI.wf {a:Int} (h:inI a):(Lit.int .i64 a).wf=true:=by
 obtain ⟨h0,h1⟩:=h
 simp only [Lit.wf,Bool.and_eq_true,decide_eq_true_eq,show IntKind.i64.min = -9223372036854775808 from rfl,show IntKind.i64.max=9223372036854775807 from rfl]
 omega
theorem qm {a:Int} (h:inI a):keyOf Tryz.prog 3 (.int .i64 a)=some (.int .i64 a):=keyOf_int_mk (q := .i64) (by kernel_rfl) h.wf
def kyl (o p:Int):Lit := .string (keyBytes [.int .i64 o,.int .i64 p])
theorem key2_of {P : Program} {k : TypeId} {F : Array Field} (hS : P.underlying k = some (.struct F)) (hN : F.all (·.name != "_") = true) (hL : F.toList.map (fun f => (f.type, f.offset)) = [(3, 0), (3, 1)]) (hk : P.keyType k = true) (hc : P.cellsOf k = 2)
    (hu : P.underlying 3 = some (.int .i64)) (hci : P.cellsOf 3 = 1) (hz : 0 < P.types.size) {o p : Int} (ho : inI o) (hp : inI p) : keyOf P k (.agg #[.int .i64 o, .int .i64 p]) = some (kyl o p) := by
  have hf : (Value.agg #[.int .i64 o, .int .i64 p]).formed P k = true := by
    unfold Value.formed; rw [hS]; simp [hc]
  unfold keyOf
  rw [hS]
  simp only [hk, hf, Bool.and_self, if_true]
  obtain ⟨m, hm⟩ : ∃ m, P.types.size = m + 1 := ⟨P.types.size - 1, by omega⟩
  rw [hm]
  have hi : ∀ x : Int, (Lit.int .i64 x).wf = true → P.keyLits (m + 1) 3 [.int .i64 x] = some [.int .i64 x] := fun x hx => by
    unfold Program.keyLits
    rw [hu]
    simp [hx]
  rw [show m + 1 + 1 = (m + 1) + 1 from rfl]
  unfold Program.keyLits
  rw [hS]
  simp only [Value.cells, hN, hc, List.length_cons, List.length_nil, and_self, if_true]
  generalize F.toList = L at hL
  have hlen : L.length = 2 := by have := congrArg List.length hL; simpa using this
  match L, hlen with
  | [a, b], _ =>
    simp at hL
    obtain ⟨⟨h1, h2⟩, h3, h4⟩ := hL
    simp [h1, h2, h3, h4, hci, hi o ho.wf, hi p hp.wf, kyl]
noncomputable def flds (k:TypeId):Array Field:=match Tryz.prog.underlying k with|some (.struct f)=>f|_ => #[]
theorem z08:Keyed Tryz.prog 147:=Keyed.of_law (deep_law_laid Tryz.laidOut (m := 2) (by omega) (of_decide_eq_true (by kernel_rfl)) (by kernel_rfl) (by rw [show Tryz.prog.underlying 147=some (.struct (flds 147)) by kernel_rfl]))
theorem z0Z:Keyed Tryz.prog 94:=Keyed.of_law (deep_law_laid Tryz.laidOut (m := 2) (by omega) (of_decide_eq_true (by kernel_rfl)) (by kernel_rfl) (by rw [show Tryz.prog.underlying 94=some (.struct (flds 94)) by kernel_rfl]))
theorem qX {o p:Int} (ho:inI o) (hp:inI p):keyOf Tryz.prog 147 (.agg #[.int .i64 o,.int .i64 p])=some (kyl o p) :=
 key2_of (F:=flds 147) (by kernel_rfl) (by kernel_rfl) (by kernel_rfl) (by kernel_rfl) (by kernel_rfl) (by kernel_rfl) (by kernel_rfl) (of_decide_eq_true (by kernel_rfl)) ho hp
theorem z0S {o p:Int} (ho:inI o) (hp:inI p):keyOf Tryz.prog 94 (.agg #[.int .i64 o,.int .i64 p])=some (kyl o p) :=
 key2_of (F:=flds 94) (by kernel_rfl) (by kernel_rfl) (by kernel_rfl) (by kernel_rfl) (by kernel_rfl) (by kernel_rfl) (by kernel_rfl) (of_decide_eq_true (by kernel_rfl)) ho hp
theorem kyl_inj {o p o' p' : Int} (ho:inI o) (hp:inI p) (ho' : inI o') (hp' : inI p') (h:kyl o p=kyl o' p'):o=o' ∧ p=p':=by
 have h1:=qX ho hp
 rw [h] at h1
 have:=z08.inj h1 (qX ho' hp')
 simpa using this
noncomputable def unk (l:Lit):Option (Int × Int):=open Classical in if h : ∃ q:Int × Int,(inI q.1∧inI q.2)∧l=kyl q.1 q.2 then some h.choose else none
theorem unk_kyl {o p:Int} (ho:inI o) (hp:inI p):unk (kyl o p)=some (o,p):=by
 have h : ∃ q:Int × Int,(inI q.1∧inI q.2)∧kyl o p=kyl q.1 q.2:=⟨(o,p),⟨ho,hp⟩,rfl⟩
 unfold unk
 rw [dif_pos h]
 have h2:=h.choose_spec
 obtain ⟨e1,e2⟩:=kyl_inj ho hp h2.1.1 h2.1.2 h2.2
 rw [show h.choose=(h.choose.1,h.choose.2) from rfl,← e1,← e2]
theorem z6u {l:Lit} {q:Int × Int} (h:unk l=some q):l=kyl q.1 q.2:=by
 unfold unk at h
 split at h
 ·rename_i hx
  cases h
  exact hx.choose_spec.2
 ·cases h
noncomputable def plM {α:Type} (g : α→Value) (m:Int→Int→Option α) (l:Lit):Option Value:=(unk l).bind fun q=>(m q.1 q.2).map g
theorem z3f {α:Type} (g : α→Value) (m:Int→Int→Option α) {o p:Int} (ho:inI o) (hp:inI p):plM g m (kyl o p)=(m o p).map g:=by simp [plM,unk_kyl ho hp]
theorem z81 {α:Type} (g : α→Value) (m:Int→Int→Option α) {o p:Int} (ho:inI o) (hp:inI p) (v : α):updF (plM g m) (kyl o p) (some (g v))=plM g fun x y=>if x=o∧y=p then some v else m x y:=by
 funext l
 unfold updF
 by_cases e:l=kyl o p
 ·subst e
  simp [z3f g _ ho hp]
 ·rw [if_neg e]
  unfold plM
  cases hu:unk l with
  | none=>rfl
  | some q =>
   have hq:=z6u hu
   have hne : ¬(q.1=o∧q.2=p):=fun ⟨h1,h2⟩=>e (by rw [hq,h1,h2])
   simp [hne]
def inM {α:Type} (g : α→Value) (m:Int→Option α):Lit→Option Value
 | .int .i64 o=>(m o).map g
 | _=>none
theorem z5V {α:Type} (g : α→Value) (m:Int→Option α) (o:Int):inM g m (.int .i64 o)=(m o).map g:=rfl
theorem z8l {α:Type} (g : α→Value) (m:Int→Option α) (o:Int) (v : α):updF (inM g m) (.int .i64 o) (some (g v))=inM g fun x=>if x=o then some v else m x:=by
 funext l
 unfold updF
 by_cases e:l = .int .i64 o
 ·subst e
  simp [inM]
 ·rw [if_neg e]
  unfold inM
  split
  ·rename_i x
   have:x ≠ o:=fun h=>e (by rw [h])
   simp [this]
  ·rfl
def chV (c:Ch):Value := .agg #[.int .i64 c.cap,.int .i64 c.sent,.int .i64 c.recv,.bool c.closed]
def muV (m:Mu):Value := .agg #[.bool m.locked,.int .i64 m.readers]
def dnO (d:Int→Int→Bool) (x y:Int):Option Bool:=if d x y=true then some true else none
theorem cv_ch (c:Ch):cv (chV c) = .agg [.int c.cap,.int c.sent,.int c.recv,.bool c.closed]:=by simp [cv,chV,Value.oneCell',AV.int,AV.bool]
theorem cv_mu (m:Mu):cv (muV m) = .agg [.bool m.locked,.int m.readers]:=by simp [cv,muV,Value.oneCell',AV.int,AV.bool]
theorem ch_z (o:Option Ch):(o.map chV).getD (Value.agg { toList := [Value.int IntKind.i64 0,Value.int IntKind.i64 0,Value.int IntKind.i64 0,Value.bool false] })=chV (o.getD ch0):=by cases o <;> rfl
theorem mu_z (o:Option Mu):(o.map muV).getD (Value.agg { toList := [Value.bool false,Value.int IntKind.i64 0] })=muV (o.getD mu0):=by cases o <;> rfl
theorem dn_z (d:Int→Int→Bool) (x y:Int):cv (((dnO d x y).map Value.bool).getD (.bool false)) = .bool (d x y):=by unfold dnO;cases d x y <;> rfl
theorem z2g (m:Int→Option Ch) (o:Int) (c:Ch) {v:Value} (h:v=chV c):updF (inM chV m) (.int .i64 o) (some v)=inM chV fun x=>if x=o then some c else m x:=by subst h;exact z8l _ _ _ _
theorem z6j (m:Int→Int→Option Mu) {o f:Int} (ho:inI o) (hf:inI f) (c:Mu) {v:Value} (h:v=muV c):updF (plM muV m) (kyl o f) (some v)=plM muV fun x y=>if x=o∧y=f then some c else m x y:=by subst h;exact z81 _ _ ho hf _
theorem dn_upd (d:Int→Int→Bool) {o f:Int} (ho:inI o) (hf:inI f):updF (plM Value.bool (dnO d)) (kyl o f) (some (.bool true))=plM Value.bool (dnO fun x y=>decide (x=o∧y=f)||d x y):=by
 rw [z81 _ _ ho hf]
 congr 1
 funext x y
 unfold dnO
 by_cases h:x=o∧y=f
 ·simp [h]
 ·simp [h]
def gpC (g:Gp):List AV := [.p (.seq 1 (g.kinds.map fun x => [pI x])),.int g.obj,.int g.k,.int g.n,.int g.snd,.int g.rcv]
noncomputable def hpS (b:Nat) (s:Ps) (a1 a2 a3:Nat):Hp := [(0,.boxP (some b) 154 (.int s.ev :: .int s.gor :: .own 1 :: .own 2 :: .own 3 :: gpC s.op)),(1,.map none Tryz.prog 3 a1 (inM chV s.ch)),(2,.map none Tryz.prog 147 a2 (plM muV s.mu)),(3,.map none Tryz.prog 147 a3 (plM Value.bool (dnO s.dn)))]
structure Oki (e:Ev):Prop where
 o:inI e.obj
 f:inI e.off
theorem z7r {e:Ev} (h:qd e=true):Oki e:=by
 simp only [qd,z1F,List.all_cons,okF,Bool.and_eq_true,Bool.not_eq_true',Bool.or_eq_false_iff,decide_eq_false_iff_not] at h
 obtain ⟨_,⟨⟨h1,h2⟩,⟨h3,h4⟩,_⟩,_⟩:=h
 exact ⟨⟨by omega,by omega⟩,by omega,by omega⟩
theorem FinM.ret {P:Program} {fn:Func} {N:Nat} {Q:Hp→AV→Prop} {r:AV} {s s' : ASt} {e:Exit} (he:e = .normal∨e = .ret) {rs:Array ResultVar} (hrs:fn.results=rs) (hw:zk s s') (hN:s'.N=N) (h:zw P s' rs.toList=some r) (hq:Q s'.hp r):FinM P fn N Q e s:=⟨he,s',hw,hN,r,by rw [hrs];exact h,hq⟩
def z7I (s:Ps):Bool:=decide (0<(s.op.kinds.length:Int))
theorem open_ok (b:Nat) (s:Ps) (a1 a2 a3:Nat):MemC Tryz.prog 88 4 (hpS b s a1 a2 a3) [.ptr 0 0] fun hp' r=>hp' = hpS b s a1 a2 a3∧r = .bool (z7I s):=by
 simp only [hpS,gpC]
 refine MemC.of Tryz.func88 rfl 14 rfl (by decide) ?_;simp only [qi,frOf]
 repeat' (first|refine T.zh fun K hK=>?_|apply T.block|(refine T.reg (by kernel_rfl) fun K' hK'=>?_;simp only [bz];(with_reducible repeat' (first|(apply WL.fin;apply hK';clear hK' K')|(refine WL.step fun K2 hK2=>?_;simp only [simprocAttr,az];repeat' (first|(apply hK2;clear hK2 K2)|apply And.intro|intro hb)))))|apply T.skip|apply T.exit|refine T.zg rfl ?_|refine T.zf rfl ?_|refine T.cond rfl (fun hc=>?_) (fun hc=>?_)|apply T.ret|simp only [zb,za,reduceIte,Nat.reduceEqDiff]|((repeat ((fail_if_success apply hK);clear hK K));apply hK;clear hK K))
 all_goals (refine FinM.ret (s':=⟨[(2,.bool (z7I s))],hpS b s a1 a2 a3,14,4⟩) (r := .bool (z7I s)) (.inr rfl) Tryz.results88 (by refine zk.of' rfl ?_;simp only [wks,reduceIte,Nat.reduceEqDiff,ASt.okB,AV.okB,Nat.reduceLT,implies_true,hpS,gpC,z7I]) rfl ?_ ?_;(focus (simp only [zw,zt,zq,simprocAttr,az,];done)))
 all_goals (exact ⟨by simp only [hpS,gpC],rfl⟩)
theorem z3U (b:Nat) (s:Ps) (a1 a2 a3:Nat) (e:Ev) (he:Oki e) (h1:a1<1000000):MemC Tryz.prog 106 4 (hpS b s a1 a2 a3) [.ptr 0 0,evA e] fun hp' r=>hp' = hpS b (countP s e) (a1+1) a2 a3∧r = .tup []:=by
 simp only [hpS,gpC,evA,evC,List.map_cons,List.map_nil]
 refine MemC.of Tryz.func106 rfl 33 rfl (by decide) ?_;simp only [qi,frOf]
 repeat' (first|refine T.zh fun K hK=>?_|apply T.block|(refine T.reg (by kernel_rfl) fun K' hK'=>?_;simp only [bz];(with_reducible repeat' (first|(apply WL.fin;apply hK';clear hK' K')|(refine WL.step fun K2 hK2=>?_;simp only [simprocAttr,az];repeat' (first|(apply hK2;clear hK2 K2)|apply And.intro|intro hb)))))|apply T.skip|apply T.exit|refine T.zg rfl ?_|refine T.zf rfl ?_|refine T.cond rfl (fun hc=>?_) (fun hc=>?_)|apply T.ret|simp only [zb,za,reduceIte,Nat.reduceEqDiff]|((repeat ((fail_if_success apply hK);clear hK K));apply hK;clear hK K))
 obtain ⟨c,hc⟩ : ∃ c,(s.ch e.obj).getD ch0=c:=⟨_,rfl⟩
 have hm:a1<maxLen:=by unfold maxLen;omega
 refine T.comm [some (0,1),some (0,1),some (0,1),some (0,1),some (0,1),some (0,1),some (0,1),none,none] (by kernel_rfl) (by kernel_rfl) fun K' hK'=>?_;simp only [List.map_cons,List.map_nil,List.zip_cons_cons,List.zip_nil_left];(repeat' (first|(with_reducible refine WC.fin ?_;apply hK';clear hK' K')|((first|(with_reducible refine WC.z0Q fun K2 hK2=>?_)|(with_reducible refine WC.stepW fun K2 hK2=>?_));simp only [simprocAttr,implies_true,amz,WCg,WCv,WOw,allP,dav,Chk,List.filter_cons,List.filter_nil,bne_self_eq_false,Nat.reduceBneDiff,Bool.false_eq_true,tys,qw,qm he.o,z5V,ch_z,cv_ch,hc];(repeat' (first|(with_reducible refine hK2 _ _ ?_;clear hK2 K2)|with_reducible (first|(apply hK2;clear hK2 K2)|apply And.intro|intro hb)|(with_reducible rfl)|((with_reducible show @Eq ASt _ _);rfl) )))));all_goals ((try simp only [zb,za,reduceIte,Nat.reduceEqDiff]);(try ((repeat ((fail_if_success apply hK);clear hK K));apply hK;clear hK K)))
 obtain ⟨d,hd⟩ : ∃ d,qx c e.kind=d:=⟨_,rfl⟩
 have hq:countP s e=qF s e.obj d:=by rw [countP,hc,hd]
 rw [hq]
 by_cases k1:(e.kind==15)=true
 ·have hd' : d = { c with sent:=wI (c.sent+1) }:=by rw [← hd,qx,if_pos k1]
  have hu:=z2g s.ch e.obj d (v := .agg #[.int .i64 c.cap,.int .i64 (IntKind.i64.wrap (c.sent+1)),.int .i64 c.recv,.bool c.closed]) (by rw [hd'];rfl)
  repeat' (first|refine T.zh fun K hK=>?_|apply T.block|(refine T.reg (by kernel_rfl) fun K' hK'=>?_;simp only [bz];(with_reducible repeat' (first|(apply WL.fin;apply hK';clear hK' K')|(refine WL.step fun K2 hK2=>?_;simp only [simprocAttr,az,k1];repeat' (first|(apply hK2;clear hK2 K2)|apply And.intro|intro hb)))))|apply T.skip|apply T.exit|refine T.zg rfl ?_|refine T.zf rfl ?_|refine T.cond rfl (fun hc=>?_) (fun hc=>?_)|apply T.ret|simp only [zb,za,reduceIte,Nat.reduceEqDiff]|((repeat ((fail_if_success apply hK);clear hK K));apply hK;clear hK K))
  all_goals (refine T.drw 7 (by kernel_rfl) (by kernel_rfl) fun K' hK'=>?_;simp only [List.map_cons,List.map_nil];(repeat' (first|(with_reducible refine WL.fin ?_;apply hK';clear hK' K')|(with_reducible refine WD.fin ?_)|((with_reducible first|refine WL.step fun K2 hK2=>?_|refine WD.step fun K2 hK2=>?_);simp only [simprocAttr,az,qw,qm he.o,hm];(repeat' with_reducible (first|(apply hK2;clear hK2 K2)|apply And.intro|intro hb)))));all_goals ((try simp only [zb,za,reduceIte,Nat.reduceEqDiff]);(try ((repeat ((fail_if_success apply hK);clear hK K));apply hK;clear hK K))))
  all_goals (refine FinM.ret (s':=⟨[],hpS b (qF s e.obj d) (a1+1) a2 a3,33,4⟩) (r := .tup []) (.inl rfl) Tryz.results106 (by refine zk.of' rfl ?_;simp only [wks,reduceIte,Nat.reduceEqDiff,ASt.okB,AV.okB,Nat.reduceLT,implies_true,hu,hpS,gpC,qF]) rfl ?_ ?_;(focus (simp only [zw,zt,zq,simprocAttr,az,];done)))
  all_goals (exact ⟨by simp only [hpS,gpC],rfl⟩)
 have k1' : (e.kind==15)=false:=by simpa using k1
 by_cases k2:(e.kind==17)=true
 ·have hd' : d = { c with recv:=wI (c.recv+1) }:=by rw [← hd,qx,if_neg k1,if_pos k2]
  have hu:=z2g s.ch e.obj d (v := .agg #[.int .i64 c.cap,.int .i64 c.sent,.int .i64 (IntKind.i64.wrap (c.recv+1)),.bool c.closed]) (by rw [hd'];rfl)
  repeat' (first|refine T.zh fun K hK=>?_|apply T.block|(refine T.reg (by kernel_rfl) fun K' hK'=>?_;simp only [bz];(with_reducible repeat' (first|(apply WL.fin;apply hK';clear hK' K')|(refine WL.step fun K2 hK2=>?_;simp only [simprocAttr,az,k1',k2];repeat' (first|(apply hK2;clear hK2 K2)|apply And.intro|intro hb)))))|apply T.skip|apply T.exit|refine T.zg rfl ?_|refine T.zf rfl ?_|refine T.cond rfl (fun hc=>?_) (fun hc=>?_)|apply T.ret|simp only [zb,za,reduceIte,Nat.reduceEqDiff]|((repeat ((fail_if_success apply hK);clear hK K));apply hK;clear hK K))
  all_goals (refine T.drw 7 (by kernel_rfl) (by kernel_rfl) fun K' hK'=>?_;simp only [List.map_cons,List.map_nil];(repeat' (first|(with_reducible refine WL.fin ?_;apply hK';clear hK' K')|(with_reducible refine WD.fin ?_)|((with_reducible first|refine WL.step fun K2 hK2=>?_|refine WD.step fun K2 hK2=>?_);simp only [simprocAttr,az,qw,qm he.o,hm];(repeat' with_reducible (first|(apply hK2;clear hK2 K2)|apply And.intro|intro hb)))));all_goals ((try simp only [zb,za,reduceIte,Nat.reduceEqDiff]);(try ((repeat ((fail_if_success apply hK);clear hK K));apply hK;clear hK K))))
  all_goals (refine FinM.ret (s':=⟨[],hpS b (qF s e.obj d) (a1+1) a2 a3,33,4⟩) (r := .tup []) (.inl rfl) Tryz.results106 (by refine zk.of' rfl ?_;simp only [wks,reduceIte,Nat.reduceEqDiff,ASt.okB,AV.okB,Nat.reduceLT,implies_true,hu,hpS,gpC,qF]) rfl ?_ ?_;(focus (simp only [zw,zt,zq,simprocAttr,az,];done)))
  all_goals (exact ⟨by simp only [hpS,gpC],rfl⟩)
 ·have hd' : d=c:=by rw [← hd,qx,if_neg k1,if_neg k2]
  have k2' : (e.kind==17)=false:=by simpa using k2
  have hu:=z2g s.ch e.obj d (v := .agg #[.int .i64 c.cap,.int .i64 c.sent,.int .i64 c.recv,.bool c.closed]) (by rw [hd'];rfl)
  repeat' (first|refine T.zh fun K hK=>?_|apply T.block|(refine T.reg (by kernel_rfl) fun K' hK'=>?_;simp only [bz];(with_reducible repeat' (first|(apply WL.fin;apply hK';clear hK' K')|(refine WL.step fun K2 hK2=>?_;simp only [simprocAttr,az,k1',k2'];repeat' (first|(apply hK2;clear hK2 K2)|apply And.intro|intro hb)))))|apply T.skip|apply T.exit|refine T.zg rfl ?_|refine T.zf rfl ?_|refine T.cond rfl (fun hc=>?_) (fun hc=>?_)|apply T.ret|simp only [zb,za,reduceIte,Nat.reduceEqDiff]|((repeat ((fail_if_success apply hK);clear hK K));apply hK;clear hK K))
  all_goals (refine T.drw 7 (by kernel_rfl) (by kernel_rfl) fun K' hK'=>?_;simp only [List.map_cons,List.map_nil];(repeat' (first|(with_reducible refine WL.fin ?_;apply hK';clear hK' K')|(with_reducible refine WD.fin ?_)|((with_reducible first|refine WL.step fun K2 hK2=>?_|refine WD.step fun K2 hK2=>?_);simp only [simprocAttr,az,qw,qm he.o,hm];(repeat' with_reducible (first|(apply hK2;clear hK2 K2)|apply And.intro|intro hb)))));all_goals ((try simp only [zb,za,reduceIte,Nat.reduceEqDiff]);(try ((repeat ((fail_if_success apply hK);clear hK K));apply hK;clear hK K))))
  all_goals (refine FinM.ret (s':=⟨[],hpS b (qF s e.obj d) (a1+1) a2 a3,33,4⟩) (r := .tup []) (.inl rfl) Tryz.results106 (by refine zk.of' rfl ?_;simp only [wks,reduceIte,Nat.reduceEqDiff,ASt.okB,AV.okB,Nat.reduceLT,implies_true,hu,hpS,gpC,qF]) rfl ?_ ?_;(focus (simp only [zw,zt,zq,simprocAttr,az,];done)))
  all_goals (exact ⟨by simp only [hpS,gpC],rfl⟩)
end Go.Proofs.YtdlgoofjechocaaGreatDoor
namespace Go.Proofs.YtdlgoofjechocaaGreatDoor
open Go.RowKit Go.Sort Go.Shelf
def hpB (q:Nat) (x:AV) (bs:List UInt8):Hp := [(0,.boxP (some q) 38 [x,.own 1]),(1,.row 5 1 (z0h bs))]
theorem z7H (bs:List UInt8):(z0h bs).length=bs.length:=by simp [z0h]
theorem z9s {L:Nat→Prop} {N:Nat} {loc:Nat→Option Value} {w:World} {x:AV} {bs:List UInt8} {q:Nat} (hh:HRel L N (hpB q x bs) loc w) : ∃ p v,loc 0=some (.pointer (some ⟨q,0,none⟩))∧w.heap[q]? = some (.cells #[p,v] 38 (0,0))∧AR N (Dm L loc) loc w x p∧loc 1=some v∧p.oneCell' = true ∧
  w.ownsRow 0 5 1 v bs.length (Go.Lib.byteCells bs):=by
 obtain ⟨h1,u,h2,b,arr,rfl,h3,h4,h5,h6,h7⟩:=hh.at' 0 _ rfl
 obtain rfl:=h7 q rfl
 obtain ⟨k1,v,k2,flat,k3,k4,k5,k6⟩:=hh.at' 1 _ rfl
 obtain ⟨p,v',rfl⟩ : ∃ p v',arr = #[p,v']:=by
  match arr,h4 with
  | ⟨[p,v']⟩,_=>exact ⟨p,v',rfl⟩
 have a0:=h5 0 x rfl
 have a1:=h5 1 (.own 1) rfl
 have c0:=h6 0 (by simp)
 simp only [Array.getD_eq_getD_getElem?] at a0 a1 c0
 cases a1 with
 | own _ _ _ _ hv =>
 have e:v' = v:=hv v k2
 refine ⟨p,v,h2,by rw [h3,show v' = v from e],a0,k2,c0,?_⟩
 rw [z7H] at k3
 have hf:flat=Go.Lib.byteCells bs:=by
  apply List.ext_getElem?
  intro j
  by_cases hj:j<bs.length
  ·have hr:(z0h bs)[j]? = some [.val (.int .u8 (bs[j]).toNat)]:=by simp [z0h,hj]
   obtain ⟨z,z1,z2⟩:=k5 j _ 0 _ hr rfl
   have:=(AR.p (N := 0) (loc:=z1Z) _ _ z2).val
   rw [this,Nat.mul_one,Nat.add_zero] at z1
   rw [z1]
   simp [Go.Lib.byteCells,hj]
  ·have e1:flat.length=bs.length:=by rw [k3.1,Nat.mul_one]
   rw [List.getElem?_eq_none (by omega),List.getElem?_eq_none (by simp [Go.Lib.byteCells];omega)]
 rw [← hf]
 exact k3
theorem z9Z (w:World) (b j:Nat) (v:Value):Kp (fun k=>k=b) w (w.setCell ⟨b,j,none⟩ v) :=
 ⟨rfl,rfl,rfl,by simp [World.setCell],fun k _ hk=>Below.heap_setCell _ _ _ _ (fun e=>hk (by simpa using e))⟩
theorem z9B (b:Nat) (x:AV) (bs:List UInt8) (hx:x = .p (.val (.pointer none))∨x = .ptr 0 0):MemC Tryz.prog 23 2 (hpB b x bs) [.ptr 0 0] fun hp' r=>hp' = hpB b (.ptr 0 0) bs∧r = .tup []:=fun L loc w vs hh hvs=>by
 obtain ⟨v0,rfl⟩ : ∃ v0,vs = [v0]:=by
  match vs,hvs.1 with
  | [v0],_=>exact ⟨v0,rfl⟩
 obtain ⟨p,v,l0,hbk,hp,l1,hp1,hown⟩:=z9s hh
 have h0:=hvs.2 0 _ v0 rfl rfl
 cases h0 with
 | ptr _ _ _ _ _ hv =>
 obtain rfl:=hv b l0
 have t0:AR 2 (Dm L loc) loc w (.tup []) (.tuple #[]) := .tup [] #[] rfl (fun j x hx=>by simp at hx)
 have box : ∀ (w' : World),w'.heap[b]? = some (.cells #[.pointer (some ⟨b,0,none⟩),v] 38 (0,0))→Kp (fun k=>k=b) w w' → HRel L 2 (hpB b (.ptr 0 0) bs) loc w':=fun w' hb' hk =>
  hh.turn (t := 0) rfl l0 rfl hk ⟨b,_,rfl,hb',rfl,fun j y hy=>by
   match j,hy with
   | 0,hy=>cases hy;exact .ptr 0 0 _ (by omega) rfl fun b' hb2=>by rw [l0] at hb2;cases hb2;rfl
   | 1,hy=>cases hy;exact .own 1 _ (by omega) (by rcases hown.2 with ⟨rfl,_⟩|⟨_,_,_,rfl,_⟩ <;> rfl) fun u hu=>by rw [l1] at hu;cases hu;rfl,
   fun j hj=>by
    match j,hj with
    | 0,_=>rfl
    | 1,_=>rcases hown.2 with ⟨rfl,_⟩|⟨_,_,_,rfl,_⟩ <;> rfl,fun p e=>by cases e;rfl⟩
 rcases hx with rfl|rfl
 ·obtain rfl:=hp.val
  refine Calls.mono (Any.Builder_copyCheck_fresh { joinL with } joinX.toX72 b w (by simp [World.cell?,hbk]) (by simp [World.shape?,hbk];rfl) (by simp [World.frozen?,hbk])) ?_
  rintro e w' ⟨rfl,rfl⟩
  have hk:=z9Z w b 0 (.pointer (some ⟨b,0,none⟩))
  have hb' : (w.setCell ⟨b,0,none⟩ (.pointer (some ⟨b,0,none⟩))).heap[b]? = some (.cells #[.pointer (some ⟨b,0,none⟩),v] 38 (0,0)):=by simp [World.setCell,Array.getElem?_modify,hbk]
  exact ⟨_,loc,_,_,rfl,⟨rfl,rfl⟩,box _ hb' hk,.tup [] #[] rfl (fun j x hx=>by simp at hx),.turn l0 rfl hk⟩
 ·cases hp with
  | ptr _ _ _ _ _ hv' =>
  obtain rfl:=hv' b l0
  refine Calls.mono (Any.Builder_copyCheck_used { joinL with } joinX.toX72 b w (by simp [World.cell?,hbk])) ?_
  rintro e w' ⟨rfl,rfl⟩
  exact ⟨_,loc,_,_,rfl,⟨rfl,rfl⟩,hh,t0,Ext.refl _ _⟩
theorem sl9:isSl Tryz.prog 9=false:=by kernel_rfl
theorem cv_nil:cv .nilIface = .p (.val .nilIface):=rfl
theorem appS36:appS Tryz.prog 36 9=some 5:=by kernel_rfl
theorem z8G (q:Nat) (x:AV) (bs:List UInt8) (s:ByteArray) (hx:x = .p (.val (.pointer none))∨x = .ptr 0 0) (hl:bs.length+s.size≤140737488355328) :
  MemC Tryz.prog 10 2 (hpB q x bs) [.ptr 0 0,.str s] fun hp' r=>hp' = hpB q (.ptr 0 0) (bs++s.data.toList)∧r = .tup [.int s.size,.p (.val .nilIface)]:=by
 have hcc:=z9B q x bs hx
 have hl2:=z7H bs
 have happ:z0h bs++z0h s.data.toList=z0h (bs++s.data.toList):=by simp [z0h]
 simp only [hpB] at hcc ⊢
 rcases hx with rfl|rfl
 ·refine MemC.of Tryz.func10 rfl 19 rfl (by decide) ?_;simp only [qi,frOf]
  repeat' (first|refine T.zh fun K hK=>?_|apply T.block|(refine T.reg (by kernel_rfl) fun K' hK'=>?_;simp only [bz];(repeat' (first|(with_reducible refine WL.fin ?_;apply hK';clear hK' K')|((with_reducible refine WL.step fun K2 hK2=>?_);simp only [simprocAttr,az,appS36,hl2,hl,happ,cv_nil,sl9,Bool.false_eq_true];(repeat' (first|with_reducible (first|(apply hK2;clear hK2 K2)|apply And.intro|intro hb)|((with_reducible refine zM 2 _ _ [0] (Ent.of Tryz.func23 (by kernel_rfl) rfl) (hcc) ?_ ?_ ?_);(focus ((refine ⟨Nat.le_of_ble_eq_true rfl,?_,?_⟩ <;> simp only [pz,reduceIte,Nat.reduceEqDiff,AV.okB,Nat.reduceLT,]);done));(focus (simp [AV.okB];done));rintro hp' r ⟨rfl,rfl⟩;refine ⟨by simp [Kept,zy,AO.handle],?_⟩;simp only [cz,ASt.zR,AO.keep,Nat.reduceLeDiff,reduceIte,Nat.reduceEqDiff,])))))))|apply T.skip|apply T.exit|refine T.zg rfl ?_|refine T.zf rfl ?_|refine T.cond rfl (fun hc=>?_) (fun hc=>?_)|apply T.ret|simp only [zb,za,reduceIte,Nat.reduceEqDiff]|((repeat ((fail_if_success apply hK);clear hK K));apply hK;clear hK K))
  all_goals (refine FinM.ret (s':=⟨[(4,.int s.size),(5,.p (.val .nilIface))],hpB q (.ptr 0 0) (bs++s.data.toList),19,2⟩) (r := .tup [.int s.size,.p (.val .nilIface)]) (.inr rfl) Tryz.results10 (by refine zk.of' rfl ?_;simp only [wks,reduceIte,Nat.reduceEqDiff,ASt.okB,AV.okB,Nat.reduceLT,implies_true,hpB]) rfl ?_ ?_;(focus (simp only [zw,zt,zq,simprocAttr,az,];done)))
  all_goals exact ⟨rfl,rfl⟩
 ·refine MemC.of Tryz.func10 rfl 19 rfl (by decide) ?_;simp only [qi,frOf]
  repeat' (first|refine T.zh fun K hK=>?_|apply T.block|(refine T.reg (by kernel_rfl) fun K' hK'=>?_;simp only [bz];(repeat' (first|(with_reducible refine WL.fin ?_;apply hK';clear hK' K')|((with_reducible refine WL.step fun K2 hK2=>?_);simp only [simprocAttr,az,appS36,hl2,hl,happ,cv_nil,sl9,Bool.false_eq_true];(repeat' (first|with_reducible (first|(apply hK2;clear hK2 K2)|apply And.intro|intro hb)|((with_reducible refine zM 2 _ _ [0] (Ent.of Tryz.func23 (by kernel_rfl) rfl) (hcc) ?_ ?_ ?_);(focus ((refine ⟨Nat.le_of_ble_eq_true rfl,?_,?_⟩ <;> simp only [pz,reduceIte,Nat.reduceEqDiff,AV.okB,Nat.reduceLT,]);done));(focus (simp [AV.okB];done));rintro hp' r ⟨rfl,rfl⟩;refine ⟨by simp [Kept,zy,AO.handle],?_⟩;simp only [cz,ASt.zR,AO.keep,Nat.reduceLeDiff,reduceIte,Nat.reduceEqDiff,])))))))|apply T.skip|apply T.exit|refine T.zg rfl ?_|refine T.zf rfl ?_|refine T.cond rfl (fun hc=>?_) (fun hc=>?_)|apply T.ret|simp only [zb,za,reduceIte,Nat.reduceEqDiff]|((repeat ((fail_if_success apply hK);clear hK K));apply hK;clear hK K))
  all_goals (refine FinM.ret (s':=⟨[(4,.int s.size),(5,.p (.val .nilIface))],hpB q (.ptr 0 0) (bs++s.data.toList),19,2⟩) (r := .tup [.int s.size,.p (.val .nilIface)]) (.inr rfl) Tryz.results10 (by refine zk.of' rfl ?_;simp only [wks,reduceIte,Nat.reduceEqDiff,ASt.okB,AV.okB,Nat.reduceLT,implies_true,hpB]) rfl ?_ ?_;(focus (simp only [zw,zt,zq,simprocAttr,az,];done)))
  all_goals exact ⟨rfl,rfl⟩
end Go.Proofs.YtdlgoofjechocaaGreatDoor
namespace Go.Proofs.YtdlgoofjechocaaGreatDoor
open Go.RowKit Go.Sort
theorem qa (l:List Value) (n:Nat):(z0y l).all (AV.okB n)=true:=by
 simp [z0y,AV.okB]
theorem z6A {x:Int} (h:okF x=true):z3z Tryz.prog 11 1000002 hpG [.int x] (.string (dI x)):=by
 simp [okF] at h
 exact itoaC (by omega) (by omega)
theorem name_at {k:Int} (hk:z0i k=true):(z0y z2z)[k.toNat]? = some (.p (.val (.string (z1H k)))):=by
 have h1:decide (k<1)=false:=by simp_all [z0i]
 have h2:decide (20<k)=false:=by simp_all [z0i]
 obtain ⟨n,rfl⟩ : ∃ n:Nat,k=n:=⟨k.toNat,by simp at h1;omega⟩
 have hn:n<21:=by simp at h2;omega
 have h0 : 1≤n:=by simp at h1;omega
 unfold z1H
 rw [hk]
 clear h1 h2 hk
 rcases n with _|_|_|_|_|_|_|_|_|_|_|_|_|_|_|_|_|_|_|_|_|n <;> first|(exfalso;omega)|rfl
theorem z9A {s:ASt} (h : ∀ t o,hpG.lookup t=some o→s.hp.lookup t=some o):z9P s 1000002 hpG:=fun t o ho=>⟨h t o ho,by
 obtain ⟨p,ty,us,rfl⟩:=z3B t o ho
 exact qa us 0,by
 unfold hpG at ho
 rw [zy,zy,qP] at ho
 split at ho
 ·omega
 ·split at ho
  ·omega
  ·cases ho⟩
theorem lookG (k:Nat) (x:AO) (hk:k ≠ 1000000∧k ≠ 1000001) (t:Nat) (o:AO) (h:hpG.lookup t=some o):List.lookup t ((k,x) :: hpG)=some o:=by
 rw [zy,if_neg]
 ·exact h
 ·rintro rfl
  unfold hpG at h
  rw [zy,zy,qP,if_neg hk.1,if_neg hk.2] at h
  cases h
theorem lookG0:hpG.lookup 1000000=some (.boxP (some 0) 57 (z0y z2z)):=rfl
theorem evT_eq (e:Ev) (hv:qd e=true) (o:ByteArray) (ho : ∀ s:ByteArray,tObj e s=s++o):evT e=((((((((⟨#[103]⟩++dI e.g)++⟨#[32]⟩)++z1H e.kind)++⟨#[32]⟩)++o)++⟨#[32]⟩)++(((⟨#[64]⟩++dI e.fn)++⟨#[58]⟩)++dI e.pc))++⟨#[32]⟩)++(⟨#[35]⟩++dI e.st):=by
 rw [evT,if_pos hv,ho]
 apply z3e
 simp only [z7K,z9S,z1P,List.append_assoc]
 rfl
def oB (e:Ev):ByteArray:=if (e.kind==14)=true then ⟨#[103]⟩++dI e.k else if zT e.kind=true then (((dI e.obj++⟨#[32]⟩)++dI e.k)++⟨#[47]⟩)++dI e.n else (dI e.obj++⟨#[46]⟩)++dI e.off
theorem oB_eq (e:Ev) (s:ByteArray):tObj e s=s++oB e:=by
 unfold tObj oB
 split
 ·apply z3e;simp only [z1P,List.append_assoc]
 ·split
  ·apply z3e;simp only [z1P,List.append_assoc]
  ·apply z3e;simp only [z1P,List.append_assoc]
theorem ml_5:(5≤maxLen)=True:=eq_true (by decide)
theorem z6G (n:Nat) (ks:List Nat) (l:List Value):(z0y l).map (AV.keep n ks)=z0y l:=by
 simp [z0y,AV.z0F]
theorem textE_mem (e:Ev):MemC Tryz.prog 12 1000002 hpG [evA e] fun hp' r=>hp' = hpG∧r = .p (.val (.string (evT e))):=by
 simp only [evA,evC,List.map_cons,List.map_nil]
 refine MemC.of Tryz.func12 rfl 75 rfl (by decide) ?_;simp only [qi,frOf]
 have hvo:=z5d e
 simp only [evA,evC,List.map_cons,List.map_nil] at hvo
 cases hv:qd e with
 | false =>
  rw [hv] at hvo
  have hE:(⟨#[]⟩ : ByteArray)=evT e:=by simp [evT,hv]
  repeat' (first|refine T.zh fun K hK=>?_|apply T.block|(refine T.reg (by kernel_rfl) fun K' hK'=>?_;simp only [bz];(repeat' (first|(with_reducible refine WL.fin ?_;apply hK';clear hK' K')|((with_reducible refine WL.step fun K2 hK2=>?_);simp only [simprocAttr,az];(repeat' (first|with_reducible (first|(apply hK2;clear hK2 K2)|apply And.intro|intro hb)|((with_reducible first|apply zl|apply zm);case h=>exact CallV.plain (Ent.of Tryz.func25 (by kernel_rfl) rfl) (hvo) (by simp [AV.okB]))))))))|apply T.skip|apply T.exit|refine T.zg rfl ?_|refine T.zf rfl ?_|refine T.cond rfl (fun hc=>?_) (fun hc=>?_)|apply T.ret|simp only [zb,za,reduceIte,Nat.reduceEqDiff]|((repeat ((fail_if_success apply hK);clear hK K));apply hK;clear hK K))
  all_goals (refine FinM.ret (s':=⟨[(2,.p (.val (.string (evT e))))],hpG,75,1000002⟩) (r := .p (.val (.string (evT e)))) (.inr rfl) Tryz.results12 (by refine zk.of' rfl ?_;simp only [wks,reduceIte,Nat.reduceEqDiff,ASt.okB,AV.okB,Nat.reduceLT,implies_true,hpG,hE,qa]) rfl ?_ ?_;(focus (simp only [zw,zt,zq,simprocAttr,az,];done)))
  all_goals exact ⟨rfl,rfl⟩
 | true =>
  rw [hv] at hvo
  obtain ⟨f1,f2,f3,f4,f5,f6,f7,f8⟩:=z8w hv
  have z1:=z1e f1;have z2:=z1e f2;have z3:=z1e f3;have z4:=z1e f4;have z5:=z1e f5;have z6:=z1e f6;have z7:=z1e f7;have z8:=z1e f8
  have d1:=z6A f1;have d2:=z6A f2;have d3:=z6A f3;have d4:=z6A f4;have d5:=z6A f5;have d6:=z6A f6;have d7:=z6A f7;have d8:=z6A f8
  have zn:=z6s e.kind
  have hkd:z0i e.kind=true:=by simp only [qd,z3x] at hv;simp at hv;exact hv.1.2
  have nm:=name_at hkd
  have k1:(0≤e.kind)=True:=eq_true (by simp [z0i] at hkd;omega)
  have k2:(e.kind.toNat<21)=True:=eq_true (by simp [z0i] at hkd;omega)
  have l1:(⟨#[103]⟩ : ByteArray).size=1:=rfl
  have l2:(⟨#[32]⟩ : ByteArray).size=1:=rfl
  have l3:(⟨#[47]⟩ : ByteArray).size=1:=rfl
  have l4:(⟨#[46]⟩ : ByteArray).size=1:=rfl
  have l5:(⟨#[58]⟩ : ByteArray).size=1:=rfl
  have l6:(⟨#[64]⟩ : ByteArray).size=1:=rfl
  have l7:(⟨#[35]⟩ : ByteArray).size=1:=rfl
  repeat' (first|refine T.zh fun K hK=>?_|apply T.block|(refine T.reg (by kernel_rfl) fun K' hK'=>?_;simp only [bz];(repeat' (first|(with_reducible refine WL.fin ?_;apply hK';clear hK' K')|((with_reducible refine WL.step fun K2 hK2=>?_);simp only [simprocAttr,az];(repeat' (first|with_reducible (first|(apply hK2;clear hK2 K2)|apply And.intro|intro hb)|((with_reducible first|apply zl|apply zm);case h=>exact CallV.plain (Ent.of Tryz.func25 (by kernel_rfl) rfl) (hvo) (by simp [AV.okB]))))))))|apply T.skip|apply T.exit|refine T.zg rfl ?_|refine T.zf rfl ?_|refine T.cond rfl (fun hc=>?_) (fun hc=>?_)|apply T.ret|simp only [zb,za,reduceIte,Nat.reduceEqDiff]|((repeat ((fail_if_success apply hK);clear hK K));apply hK;clear hK K))
  obtain ⟨o0,eo0⟩ : ∃ s:ByteArray,(dI e.obj)++(⟨#[46]⟩ : ByteArray)=s:=⟨_,rfl⟩
  have co0:((dI e.obj).size+(⟨#[46]⟩ : ByteArray).size≤9223372036854775807)=True:=eq_true (by omega)
  have bo0:o0.size≤21:=by rw [← eo0,ByteArray.size_append];omega
  obtain ⟨o1,eo1⟩ : ∃ s:ByteArray,o0++(dI e.off)=s:=⟨_,rfl⟩
  have co1:(o0.size+(dI e.off).size≤9223372036854775807)=True:=eq_true (by omega)
  have bo1:o1.size≤41:=by rw [← eo1,ByteArray.size_append];omega
  refine T.drw 9 (by kernel_rfl) (by kernel_rfl) fun K' hK'=>?_;simp only [List.map_cons,List.map_nil];(repeat' (first|(with_reducible refine WL.fin ?_;apply hK';clear hK' K')|(with_reducible refine WD.fin ?_)|((with_reducible first|refine WL.step fun K2 hK2=>?_|refine WD.step fun K2 hK2=>?_);simp only [simprocAttr,az,co0,co1,eo0,eo1];(repeat' (first|with_reducible (first|(apply hK2;clear hK2 K2)|apply And.intro|intro hb)|((with_reducible refine ⟨_,CallR.read 1000002 hpG _ rfl rfl (Ent.of Tryz.func11 (by kernel_rfl) rfl) (by assumption) (z9A (lookG 1000002 _ (by decide))) ?_ ?_,?_⟩);(focus (simp [AV.okB];done));(focus rfl)))))));all_goals ((try simp only [zb,za,reduceIte,Nat.reduceEqDiff]);(try ((repeat ((fail_if_success apply hK);clear hK K));apply hK;clear hK K)))
  refine T.zh fun K hK=>?_
  have hmid : ∀ (z:ASt) (o:ByteArray),o=oB e→o.size≤200→zk z ⟨[(1,.ptr 1000002 0),(3,.fn (.func 11) []),(4,.p (.val (.string o)))],(1000002,.boxP none 30 [.p (.val (.int .i64 e.g)),.p (.val (.int .i64 e.kind)),.p (.val (.int .i64 e.obj)),.p (.val (.int .i64 e.off)),.p (.val (.int .i64 e.k)),.p (.val (.int .i64 e.n)),.p (.val (.int .i64 e.fn)),.p (.val (.int .i64 e.pc)),.p (.val (.int .i64 e.st))]) :: hpG,75,1000003⟩→K z:=by
   intro z o ho zo hw
   refine hK _ ?_
   refine T.weak hw ?_
   repeat' (first|refine T.zh fun K hK=>?_|apply T.block|(refine T.reg (by kernel_rfl) fun K' hK'=>?_;simp only [bz];(with_reducible repeat' (first|(apply WL.fin;apply hK';clear hK' K')|(refine WL.step fun K2 hK2=>?_;simp only [simprocAttr,az];repeat' (first|(apply hK2;clear hK2 K2)|apply And.intro|intro hb)))))|apply T.skip|apply T.exit|refine T.zg rfl ?_|refine T.zf rfl ?_|refine T.cond rfl (fun hc=>?_) (fun hc=>?_)|apply T.ret|simp only [zb,za,reduceIte,Nat.reduceEqDiff]|((repeat ((fail_if_success apply hK);clear hK K));apply hK;clear hK K))
   obtain ⟨a0,ea0⟩ : ∃ s:ByteArray,(⟨#[103]⟩ : ByteArray)++(dI e.g)=s:=⟨_,rfl⟩
   have ca0:((⟨#[103]⟩ : ByteArray).size+(dI e.g).size≤9223372036854775807)=True:=eq_true (by omega)
   have ba0:a0.size≤21:=by rw [← ea0,ByteArray.size_append];omega
   obtain ⟨c0,ec0⟩ : ∃ s:ByteArray,(⟨#[64]⟩ : ByteArray)++(dI e.fn)=s:=⟨_,rfl⟩
   have cc0:((⟨#[64]⟩ : ByteArray).size+(dI e.fn).size≤9223372036854775807)=True:=eq_true (by omega)
   have bc0:c0.size≤21:=by rw [← ec0,ByteArray.size_append];omega
   obtain ⟨c1,ec1⟩ : ∃ s:ByteArray,c0++(⟨#[58]⟩ : ByteArray)=s:=⟨_,rfl⟩
   have cc1:(c0.size+(⟨#[58]⟩ : ByteArray).size≤9223372036854775807)=True:=eq_true (by omega)
   have bc1:c1.size≤22:=by rw [← ec1,ByteArray.size_append];omega
   obtain ⟨c2,ec2⟩ : ∃ s:ByteArray,c1++(dI e.pc)=s:=⟨_,rfl⟩
   have cc2:(c1.size+(dI e.pc).size≤9223372036854775807)=True:=eq_true (by omega)
   have bc2:c2.size≤42:=by rw [← ec2,ByteArray.size_append];omega
   obtain ⟨s0,es0⟩ : ∃ s:ByteArray,(⟨#[35]⟩ : ByteArray)++(dI e.st)=s:=⟨_,rfl⟩
   have cs0:((⟨#[35]⟩ : ByteArray).size+(dI e.st).size≤9223372036854775807)=True:=eq_true (by omega)
   have bs0:s0.size≤21:=by rw [← es0,ByteArray.size_append];omega
   have hE:((((((((a0++⟨#[32]⟩)++z1H e.kind)++⟨#[32]⟩)++o)++⟨#[32]⟩)++c2)++⟨#[32]⟩)++s0)=evT e:=by rw [evT_eq e hv (oB e) (oB_eq e),ho,← es0,← ec2,← ec1,← ec0,← ea0]
   have hj:=joinC a0 (z1H e.kind) o c2 s0 ⟨#[32]⟩ (by omega)
   rw [hE] at hj
   have lg:=lookG0
   refine T.drw 26 (by kernel_rfl) (by kernel_rfl) fun K' hK'=>?_;simp only [List.map_cons,List.map_nil];(repeat' (first|(with_reducible refine WL.fin ?_;apply hK';clear hK' K')|(with_reducible refine WD.fin ?_)|((with_reducible first|refine WL.step fun K2 hK2=>?_|refine WD.step fun K2 hK2=>?_);simp only [simprocAttr,az,ca0,cc0,cc1,cc2,cs0,ea0,ec0,ec1,ec2,es0,k1,k2,nm,lg,true_and,ml_5,Nat.mul_one];(repeat' (first|with_reducible (first|(apply hK2;clear hK2 K2)|apply And.intro|intro hb)|((with_reducible refine ⟨_,CallR.read 1000002 hpG _ rfl rfl (Ent.of Tryz.func11 (by kernel_rfl) rfl) (by assumption) (z9A (lookG 1000002 _ (by decide))) ?_ ?_,?_⟩);(focus (simp [AV.okB];done));(focus rfl))|((with_reducible first|apply zl|apply zm);case h=>exact CallV.plain (Ent.of Tryz.func27 (by kernel_rfl) rfl) (hj) (by simp [AV.okB])))))));all_goals ((try simp only [zb,za,reduceIte,Nat.reduceEqDiff]);(try ((repeat ((fail_if_success apply hK);clear hK K));apply hK;clear hK K)))
   repeat' (first|refine T.zh fun K hK=>?_|apply T.block|(refine T.reg (by kernel_rfl) fun K' hK'=>?_;simp only [bz];(with_reducible repeat' (first|(apply WL.fin;apply hK';clear hK' K')|(refine WL.step fun K2 hK2=>?_;simp only [simprocAttr,az];repeat' (first|(apply hK2;clear hK2 K2)|apply And.intro|intro hb)))))|apply T.skip|apply T.exit|refine T.zg rfl ?_|refine T.zf rfl ?_|refine T.cond rfl (fun hc=>?_) (fun hc=>?_)|apply T.ret|simp only [zb,za,reduceIte,Nat.reduceEqDiff]|((repeat ((fail_if_success apply hK);clear hK K));apply hK;clear hK K))
   all_goals (refine FinM.ret (s':=⟨[(2,.p (.val (.string (evT e))))],hpG,75,1000002⟩) (r := .p (.val (.string (evT e)))) (.inr rfl) Tryz.results12 (by refine zk.of' rfl ?_;simp only [wks,reduceIte,Nat.reduceEqDiff,ASt.okB,AV.okB,Nat.reduceLT,implies_true,hpG,qa]) rfl ?_ ?_;(focus (simp only [zw,zt,zq,simprocAttr,az,];done)))
   all_goals exact ⟨rfl,rfl⟩
  clear hK
  cases hk:(e.kind==14) with
  | true =>
   obtain ⟨p0,ep0⟩ : ∃ s:ByteArray,(⟨#[103]⟩ : ByteArray)++(dI e.k)=s:=⟨_,rfl⟩
   have cp0:((⟨#[103]⟩ : ByteArray).size+(dI e.k).size≤9223372036854775807)=True:=eq_true (by omega)
   have bp0:p0.size≤21:=by rw [← ep0,ByteArray.size_append];omega
   repeat' (first|refine T.zh fun K hK=>?_|apply T.block|(refine T.reg (by kernel_rfl) fun K' hK'=>?_;simp only [bz];(repeat' (first|(with_reducible refine WL.fin ?_;apply hK';clear hK' K')|((with_reducible refine WL.step fun K2 hK2=>?_);simp only [simprocAttr,az,hk,cp0,ep0];(repeat' (first|with_reducible (first|(apply hK2;clear hK2 K2)|apply And.intro|intro hb)|((with_reducible refine zM 1000002 hpG _ [] (Ent.of Tryz.func11 (by kernel_rfl) rfl) (z3z.mem d4 rfl) ?_ ?_ ?_);(focus ((refine ⟨Nat.le_of_ble_eq_true rfl,?_,?_⟩ <;> simp only [pz,reduceIte,Nat.reduceEqDiff,AV.okB,Nat.reduceLT,hpG,qa]);done));(focus (simp [AV.okB];done));rintro hp' r ⟨rfl,rfl⟩;refine ⟨by simp,?_⟩;simp only [cz,ASt.zR,AO.keep,Nat.reduceLeDiff,reduceIte,Nat.reduceEqDiff,hpG,z6G])))))))|apply T.skip|apply T.exit|refine T.zg rfl ?_|refine T.zf rfl ?_|refine T.cond rfl (fun hc=>?_) (fun hc=>?_)|apply T.ret|simp only [zb,za,reduceIte,Nat.reduceEqDiff]|((repeat ((fail_if_success apply hK);clear hK K));apply hK;clear hK K))
   refine hmid _ p0 ?_ (by omega) ?_
   ·simp only [oB,hk,reduceIte,Bool.false_eq_true,ep0]
   ·refine zk.of' rfl ?_;simp only [wks,reduceIte,Nat.reduceEqDiff,ASt.okB,AV.okB,Nat.reduceLT,implies_true,hpG,qa,z6G]
  | false =>
   cases hc:zT e.kind with
   | true =>
    obtain ⟨q0,eq0⟩ : ∃ s:ByteArray,(dI e.obj)++(⟨#[32]⟩ : ByteArray)=s:=⟨_,rfl⟩
    have cq0:((dI e.obj).size+(⟨#[32]⟩ : ByteArray).size≤9223372036854775807)=True:=eq_true (by omega)
    have bq0:q0.size≤21:=by rw [← eq0,ByteArray.size_append];omega
    obtain ⟨q1,eq1⟩ : ∃ s:ByteArray,q0++(dI e.k)=s:=⟨_,rfl⟩
    have cq1:(q0.size+(dI e.k).size≤9223372036854775807)=True:=eq_true (by omega)
    have bq1:q1.size≤41:=by rw [← eq1,ByteArray.size_append];omega
    obtain ⟨q2,eq2⟩ : ∃ s:ByteArray,q1++(⟨#[47]⟩ : ByteArray)=s:=⟨_,rfl⟩
    have cq2:(q1.size+(⟨#[47]⟩ : ByteArray).size≤9223372036854775807)=True:=eq_true (by omega)
    have bq2:q2.size≤42:=by rw [← eq2,ByteArray.size_append];omega
    obtain ⟨q3,eq3⟩ : ∃ s:ByteArray,q2++(dI e.n)=s:=⟨_,rfl⟩
    have cq3:(q2.size+(dI e.n).size≤9223372036854775807)=True:=eq_true (by omega)
    have bq3:q3.size≤62:=by rw [← eq3,ByteArray.size_append];omega
    repeat' (first|refine T.zh fun K hK=>?_|apply T.block|(refine T.reg (by kernel_rfl) fun K' hK'=>?_;simp only [bz];(repeat' (first|(with_reducible refine WL.fin ?_;apply hK';clear hK' K')|((with_reducible refine WL.step fun K2 hK2=>?_);simp only [simprocAttr,az,hk,hc];(repeat' (first|with_reducible (first|(apply hK2;clear hK2 K2)|apply And.intro|intro hb)|((with_reducible first|apply zl|apply zm);case h=>exact CallV.plain (Ent.of Tryz.func26 (by kernel_rfl) rfl) (z2R e.kind) (by simp [AV.okB]))))))))|apply T.skip|apply T.exit|refine T.zg rfl ?_|refine T.zf rfl ?_|refine T.cond rfl (fun hc=>?_) (fun hc=>?_)|apply T.ret|simp only [zb,za,reduceIte,Nat.reduceEqDiff]|((repeat ((fail_if_success apply hK);clear hK K));apply hK;clear hK K))
    refine T.drw 15 (by kernel_rfl) (by kernel_rfl) fun K' hK'=>?_;simp only [List.map_cons,List.map_nil];(repeat' (first|(with_reducible refine WL.fin ?_;apply hK';clear hK' K')|(with_reducible refine WD.fin ?_)|((with_reducible first|refine WL.step fun K2 hK2=>?_|refine WD.step fun K2 hK2=>?_);simp only [simprocAttr,az,cq0,cq1,cq2,cq3,eq0,eq1,eq2,eq3];(repeat' (first|with_reducible (first|(apply hK2;clear hK2 K2)|apply And.intro|intro hb)|((with_reducible refine ⟨_,CallR.read 1000002 hpG _ rfl rfl (Ent.of Tryz.func11 (by kernel_rfl) rfl) (by assumption) (z9A (lookG 1000002 _ (by decide))) ?_ ?_,?_⟩);(focus (simp [AV.okB];done));(focus rfl)))))));all_goals ((try simp only [zb,za,reduceIte,Nat.reduceEqDiff]);(try ((repeat ((fail_if_success apply hK);clear hK K));apply hK;clear hK K)))
    refine hmid _ q3 ?_ (by omega) ?_
    ·simp only [oB,hk,hc,reduceIte,Bool.false_eq_true,eq0,eq1,eq2,eq3]
    ·refine zk.of' rfl ?_;simp only [wks,reduceIte,Nat.reduceEqDiff,ASt.okB,AV.okB,Nat.reduceLT,implies_true,hpG,qa,z6G]
   | false =>
    repeat' (first|refine T.zh fun K hK=>?_|apply T.block|(refine T.reg (by kernel_rfl) fun K' hK'=>?_;simp only [bz];(repeat' (first|(with_reducible refine WL.fin ?_;apply hK';clear hK' K')|((with_reducible refine WL.step fun K2 hK2=>?_);simp only [simprocAttr,az,hk,hc];(repeat' (first|with_reducible (first|(apply hK2;clear hK2 K2)|apply And.intro|intro hb)|((with_reducible first|apply zl|apply zm);case h=>exact CallV.plain (Ent.of Tryz.func26 (by kernel_rfl) rfl) (z2R e.kind) (by simp [AV.okB]))))))))|apply T.skip|apply T.exit|refine T.zg rfl ?_|refine T.zf rfl ?_|refine T.cond rfl (fun hc=>?_) (fun hc=>?_)|apply T.ret|simp only [zb,za,reduceIte,Nat.reduceEqDiff]|((repeat ((fail_if_success apply hK);clear hK K));apply hK;clear hK K))
    refine hmid _ o1 ?_ (by omega) ?_
    ·simp only [oB,hk,hc,reduceIte,Bool.false_eq_true,eo0,eo1]
    ·refine zk.of' rfl ?_;simp only [wks,reduceIte,Nat.reduceEqDiff,ASt.okB,AV.okB,Nat.reduceLT,implies_true,hpG,qa,z6G]
theorem noAdd_eq {s:Ps} {r:Rs} {m:Int} (h:Inv s r m) (e:Ev):z3A s e=z6C r e:=by simp [z3A,z6C,h.ev,h.gor]
theorem validB_g {e:Ev} (h:qd e=true) : 0≤e.g∧e.g<8:=by
 simp only [qd,z3x,Bool.and_eq_true,Bool.not_eq_true',Bool.or_eq_false_iff,decide_eq_false_iff_not] at h
 omega
theorem validB_n {e:Ev} (h:qd e=true) : 0≤e.n:=by
 simp only [qd,Bool.and_eq_true] at h
 have:=List.all_eq_true.1 h.2.1 e.n (by simp [z1F])
 simp [okF] at this;omega
theorem sim_simp {s:Ps} {r:Rs} {m:Int} (h:Inv s r m) (e:Ev) (hm:m≤5000) (hk:s.op.kinds = []):(qN s e).isSome=(z0L r e).2 ∧ ∀ t,qN s e=some t→Inv t (z0L r e).1 (m+1)∧t.ev=s.ev:=by
 have hmu:=h.mu e.obj e.off
 have hmb : 0≤(muP s e).readers∧(muP s e).readers≤m:=by
  unfold muP
  cases hu:s.mu e.obj e.off with
  | none =>
   have:=h.gr0
   exact ⟨by simp [mu0],by simp [mu0];omega⟩
  | some u=>exact h.mub _ _ u hu
 have hml:qW e.obj e.off r.locks=toLk e.obj e.off (muP s e):=hmu
 have hdn:=h.dn e.obj e.off
 have hup:=h.up
 obtain ⟨hr0,hr1⟩:=hmb
 unfold qN z0L
 rw [hml,hdn]
 obtain ⟨u,hu⟩ : ∃ u,u=muP s e:=⟨_,rfl⟩
 rw [← hu] at hr0 hr1 hml ⊢
 by_cases k6:e.kind=6
 ·simp only [k6,beq_self_eq_true,if_true]
  refine ⟨?_,fun t ht=>?_⟩
  ·by_cases hc:(u.locked||decide (0<u.readers))=true
   ·rw [if_pos hc]
    simp only [Bool.or_eq_true,decide_eq_true_eq] at hc
    simp only [toLk,Option.isSome_none]
    rcases hc with hc|hc
    ·simp [hc]
    ·have:(u.readers==0)=false:=by simp;omega
     simp [this]
   ·rw [if_neg hc]
    simp only [Bool.or_eq_true,decide_eq_true_eq,not_or,Bool.not_eq_true] at hc
    have:u.readers=0:=by omega
    simp [toLk,hc.1,this]
  ·split at ht
   ·cases ht
   ·cases ht;exact ⟨hup.muTo e.obj e.off { u with locked:=true } hr0 (by simp only;omega),rfl⟩
 ·by_cases k7:e.kind=7
  ·simp only [k7,beq_self_eq_true,if_true,show ((7:Int)==6)=false from rfl,Bool.false_eq_true,if_false]
   refine ⟨?_,fun t ht=>?_⟩
   ·cases hl:u.locked <;> simp [toLk,hl]
   ·split at ht
    ·cases ht;exact ⟨hup.muTo e.obj e.off { u with locked:=false } hr0 (by simp only;omega),rfl⟩
    ·cases ht
  ·by_cases k8:e.kind=8
   ·simp only [k8,beq_self_eq_true,if_true,show ((8:Int)==6)=false from rfl,show ((8:Int)==7)=false from rfl,Bool.false_eq_true,if_false]
    have hw:wI (u.readers+1)=u.readers+1:=z5b (by omega) (by omega)
    refine ⟨?_,fun t ht=>?_⟩
    ·cases hl:u.locked <;> simp [toLk,hl]
    ·split at ht
     ·cases ht
     ·cases ht
      have:=hup.muTo e.obj e.off { u with readers:=wI (u.readers+1) } (by simp only [hw];omega) (by simp only [hw];omega)
      exact ⟨this,rfl⟩
   ·by_cases k9:e.kind=9
    ·simp only [k9,beq_self_eq_true,if_true,show ((9:Int)==6)=false from rfl,show ((9:Int)==7)=false from rfl,show ((9:Int)==8)=false from rfl,Bool.false_eq_true,if_false]
     have hw:wI (u.readers-1)=u.readers-1:=z5b (by omega) (by omega)
     refine ⟨?_,fun t ht=>?_⟩
     ·by_cases h0:u.readers=0
      ·have : ¬ (0≤u.readers-1):=by omega
       simp [toLk,hw,h0]
       decide
      ·have h2 : 0≤u.readers-1:=by omega
       simp [toLk,hw,h0,h2];omega
     ·split at ht
      ·cases ht
      ·rename_i hne
       have hne' : u.readers ≠ 0:=by simpa using hne
       cases ht
       have:=hup.muTo e.obj e.off { u with readers:=wI (u.readers-1) } (by simp only [hw];omega) (by simp only [hw];omega)
       exact ⟨this,rfl⟩
    ·by_cases k12:e.kind=12
     ·simp only [k12,beq_self_eq_true,if_true,show ((12:Int)==6)=false from rfl,show ((12:Int)==7)=false from rfl,show ((12:Int)==8)=false from rfl,show ((12:Int)==9)=false from rfl,Bool.false_eq_true,if_false]
      refine ⟨by cases s.dn e.obj e.off <;> rfl,fun t ht=>?_⟩
      split at ht
      ·cases ht
      ·cases ht
       refine ⟨⟨hup.ev,hup.gor,hup.ch,hup.mu,fun o f=>?_,⟨hup.op.kinds,hup.op.at',hup.op.own,hup.op.head,hup.op.rest,hup.op.tail⟩,hup.gr0,hup.chb,hup.mub,hup.has⟩,rfl⟩
       have:=hup.dn o f
       unfold z8A at this ⊢
       simp only [za4,List.any_append,this,List.any_cons,List.any_nil,Bool.or_false]
       rw [Bool.or_comm]
       congr 1
       rw [Bool.eq_iff_iff]
       simp only [Bool.and_eq_true,beq_iff_eq,decide_eq_true_eq]
       exact ⟨fun h=>⟨h.1.symm,h.2.symm⟩,fun h=>⟨h.1.symm,h.2.symm⟩⟩
     ·by_cases k13:e.kind=13
      ·simp only [k13,beq_self_eq_true,if_true,show ((13:Int)==6)=false from rfl,show ((13:Int)==7)=false from rfl,show ((13:Int)==8)=false from rfl,show ((13:Int)==9)=false from rfl,show ((13:Int)==12)=false from rfl,Bool.false_eq_true,if_false]
       refine ⟨by cases s.dn e.obj e.off <;> rfl,fun t ht=>?_⟩
       split at ht
       ·cases ht;exact ⟨hup,rfl⟩
       ·cases ht
      ·by_cases k14:e.kind=14
       ·simp only [k14,beq_self_eq_true,if_true,show ((14:Int)==6)=false from rfl,show ((14:Int)==7)=false from rfl,show ((14:Int)==8)=false from rfl,show ((14:Int)==9)=false from rfl,show ((14:Int)==12)=false from rfl,show ((14:Int)==13)=false from rfl,Bool.false_eq_true,if_false]
        have hg:=h.gr0
        have hw:wI (s.gor+1)=s.gor+1:=z5b (by omega) (by omega)
        have hgr:=h.gor
        refine ⟨?_,fun t ht=>?_⟩
        ·rw [hgr]
         by_cases hk2:e.k=r.gor <;> simp [hk2]
        ·split at ht
         ·cases ht
         ·cases ht
          refine ⟨⟨hup.ev,by simp [hgr],hup.ch,hup.mu,hup.dn,⟨hup.op.kinds,hup.op.at',hup.op.own,hup.op.head,hup.op.rest,hup.op.tail⟩,?_,hup.chb,hup.mub,hup.has⟩,rfl⟩
          simp only [hw];omega
       ·have n6:(e.kind==6)=false:=by simpa using k6
        have n7:(e.kind==7)=false:=by simpa using k7
        have n8:(e.kind==8)=false:=by simpa using k8
        have n9:(e.kind==9)=false:=by simpa using k9
        have n12:(e.kind==12)=false:=by simpa using k12
        have n13:(e.kind==13)=false:=by simpa using k13
        have n14:(e.kind==14)=false:=by simpa using k14
        simp only [n6,n7,n8,n9,n12,n13,n14,Bool.false_eq_true,if_false]
        exact ⟨rfl,fun t ht=>by cases ht;exact ⟨hup,rfl⟩⟩
def za2 (r:Rs) (nx:List Wt) (o k n:Int):Rs := { r with next:=nx,obj:=o,k:=k,n:=n }
theorem Inv.to {s:Ps} {r:Rs} {m:Int} (h:Inv s r m) (g:Gp) (nx:List Wt) (ro rk rn o:Int) (c:Ch) (hg:Gk g (za2 r nx ro rk rn)) (hc:ChOk g (m+1) o c) (hoth : ∀ o' c',o' ≠ o→s.ch o' = some c' → ChOk g (m+1) o' c') (hobj:g.obj=o) :
  Inv (qF (z0e s g) o c) (setC (za2 r nx ro rk rn) (toCn o c)) (m+1):=by
 have hup:=h.up
 refine ⟨hup.ev,hup.gor,fun o' n=>?_,hup.mu,hup.dn,⟨hg.kinds,hg.at',hg.own,hg.head,hg.rest,hg.tail⟩,hup.gr0,fun o' c' hc'=>?_,hup.mub,fun hk=>⟨c,?_⟩⟩
 ·rw [z7C,z2O]
  by_cases e:o' = o
  ·rw [if_pos e,if_pos (show (toCn o c).obj=o' from e.symm),e];rfl
  ·rw [if_neg e,if_neg (fun h:(toCn o c).obj=o'=>e h.symm)];exact h.ch o' n
 ·rw [z2O] at hc'
  split at hc'
  ·rename_i e;cases hc';rw [e];exact hc
  ·rename_i e;exact hoth o' c' e hc'
 ·show (qF (z0e s g) o c).ch g.obj=some c
  rw [z2O,if_pos hobj]
theorem Inv.opTo {s:Ps} {r:Rs} {m:Int} (h:Inv s r m) (g:Gp) (nx:List Wt) (hg:Gk g (z2X r nx)) (hall : ∀ o' c',s.ch o' = some c' → ChOk g (m+1) o' c') (hhas:g.kinds ≠ [] → ∃ c,s.ch g.obj=some c):Inv (z0e s g) (z2X r nx) (m+1):=by
 have hup:=h.up
 exact ⟨hup.ev,hup.gor,hup.ch,hup.mu,hup.dn,⟨hg.kinds,hg.at',hg.own,hg.head,hg.rest,hg.tail⟩,hup.gr0,hall,hup.mub,hhas⟩
theorem next_nil {s:Ps} {r:Rs} {m:Int} (h:Inv s r m) (hk:s.op.kinds = []):r.next = []:=by
 have:=h.op.kinds
 rw [hk] at this
 exact List.map_eq_nil_iff.1 this.symm
theorem z9a {s:Ps} {r:Rs} {m:Int} (h:Inv s r m) (e:Ev) (hk:s.op.kinds = []) : 0≤(zY s e).sent∧(zY s e).sent≤m ∧ 0≤(zY s e).recv∧(zY s e).recv≤(zY s e).sent:=by
 have hg:=h.gr0
 unfold zY
 cases hc:s.ch e.obj with
 | none=>simp [ch0];omega
 | some c =>
  have:=h.chb _ _ hc
  exact ⟨this.s0,this.s1,this.r0,this.le (.inl (by rw [hk];simp))⟩
theorem start_eq (s:Ps) (e:Ev) (c:Ch) (kinds:List Int) (snd rcv:Int):z1x s e c kinds snd rcv=qF (z0e s ⟨kinds,e.obj,e.k,e.n,snd,rcv⟩) e.obj (qx c e.kind):=by
 unfold z1x countP
 have e1:(z0e (qF s e.obj c) ⟨kinds,e.obj,e.k,e.n,snd,rcv⟩).ch e.obj=some c:=by show (if e.obj=e.obj then some c else s.ch e.obj)=some c;rw [if_pos rfl]
 rw [e1,Option.getD_some]
 unfold qF z0e
 simp only [Ps.mk.injEq,true_and,and_true]
 funext x
 split <;> rfl
theorem begin_eq {s:Ps} {r:Rs} {m:Int} (h:Inv s r m) (e:Ev) (nx:List Wt) (hk:e.kind=15∨e.kind=17):z2I r e nx=setC (za2 r nx e.obj e.k e.n) (toCn e.obj (qx (zY s e) e.kind)):=by
 have hc:qB e.obj e.n (openB r e nx).chans=toCn e.obj (zY s e):=h.ch e.obj e.n
 unfold z2I z02 qx
 rw [hc]
 rcases hk with k|k <;> simp [k,z9X,za7,toCn,openB,za2]
theorem Inv.start {s:Ps} {r:Rs} {m:Int} (h:Inv s r m) (hk:s.op.kinds = []) (e:Ev) (hm:m<5000) (kinds:List Int) (snd rcv:Int) (nx:List Wt) (he:e.kind=15∨e.kind=17) (hkn:kinds=nx.map (·.kind)) (h15:kinds.head? = some 15→e.kind=17)
  (h17:kinds.head? = some 17→e.kind=15) (hle:e.kind=17→kinds.head? ≠ some 15→(zY s e).recv<(zY s e).sent) (hown : ∀ w ∈ nx,w.g=ownP snd rcv w.kind) (hhead : ∀ w l,nx=w :: l→w.g<0→w.not=othP snd rcv w.kind ∧ 0≤othP snd rcv w.kind)
  (hrest : ∀ w l,nx=w :: l → 0≤w.g → ∀ x ∈ l,0≤x.g) (htail : ∀ x ∈ kinds.tail,x ≠ 15∧x ≠ 17):Inv (z1x s e (zY s e) kinds snd rcv) (z2I r e nx) (m+1):=by
 rw [start_eq,begin_eq h e nx he]
 obtain ⟨c0,c1,c2,c3⟩:=z9a h e hk
 obtain ⟨c,hc⟩ : ∃ c,c=zY s e:=⟨_,rfl⟩
 rw [← hc] at c0 c1 c2 c3 hle ⊢
 have hw1:wI (c.sent+1)=c.sent+1:=z5b (by omega) (by omega)
 have hw2:wI (c.recv+1)=c.recv+1:=z5b (by omega) (by omega)
 refine h.to _ nx e.obj e.k e.n e.obj _ ⟨hkn,fun _=>⟨rfl,rfl,rfl⟩,hown,hhead,hrest,htail⟩ ?_ (fun o' c' ho hc'=>?_) rfl
 ·rcases he with k|k
  ·have e2:qx c e.kind = { c with sent:=c.sent+1 }:=by simp [qx,k,hw1]
   rw [e2]
   refine ⟨by simp only;omega,by simp only;omega,c2,by simp only;omega,fun _=>by simp only;omega,by simp only;omega,fun _=>by simp only;omega⟩
  ·have e2:qx c e.kind = { c with recv:=c.recv+1 }:=by simp [qx,k,hw2]
   rw [e2]
   refine ⟨c0,by simp only;omega,by simp only;omega,by simp only;omega,fun hh=>?_,by simp only;omega,fun hh=>?_⟩
   ·rcases hh with hh|hh
    ·have:=hle k hh;simp only;omega
    ·exact absurd rfl hh
   ·have:=h17 hh.1;omega
 ·have hco:=h.chb o' c' hc'
  have:=hco.le (.inl (by rw [hk];simp))
  have h0:=hco.s0
  have h1:=hco.s1
  have h2:=hco.r0
  have h3:=hco.r1
  exact ⟨h0,by omega,h2,by omega,fun _=>this,by omega,fun hh=>absurd hh.2 ho⟩
theorem sim_oper {s:Ps} {r:Rs} {m:Int} (h:Inv s r m) (e:Ev) (hm:m<5000) (hk:s.op.kinds = []) (hg0 : 0≤e.g) (hn0 : 0≤e.n):(qO s e).isSome=(z2J r e).2 ∧ ∀ t,qO s e=some t→Inv t (z2J r e).1 (m+1)∧t.ev=s.ev:=by
 obtain ⟨c0,c1,c2,c3⟩:=z9a h e hk
 have hch:=chan_at h e
 have hgor:=h.gor
 have hg1:=h.gr0
 have hup:=h.up
 have hst:=fun kinds snd rcv nx=>h.start hk e hm kinds snd rcv nx
 unfold qO z2J
 rw [hch]
 obtain ⟨c,hc⟩ : ∃ c,c=zY s e:=⟨_,rfl⟩
 rw [← hc] at c0 c1 c2 c3 hst ⊢
 have hw:wI (c.sent-c.recv)=c.sent-c.recv:=z5b (by omega) (by omega)
 have hw' : IntKind.i64.wrap (c.sent-c.recv)=c.sent-c.recv:=hw
 obtain ⟨cn,hcn⟩ : ∃ cn,cn=toCn e.obj c:=⟨_,rfl⟩
 rw [← hcn]
 have f0:cn.obj=e.obj:=by rw [hcn];rfl
 have f1:cn.n=c.cap:=by rw [hcn];rfl
 have f2:cn.sent=c.sent:=by rw [hcn];rfl
 have f3:cn.recv=c.recv:=by rw [hcn];rfl
 have f4:cn.closed=c.closed:=by rw [hcn];rfl
 simp only [f0,f1,f2,f3,f4]
 by_cases hcap:c.cap=e.n
 ·have d0:(c.cap != e.n)=false:=by simp [hcap]
  simp only [d0,Bool.false_eq_true,if_false]
  by_cases k19:e.kind=19
  ·simp only [k19,beq_self_eq_true,if_true,show ((19:Int)==15)=false from rfl,show ((19:Int)==17)=false from rfl,Bool.false_eq_true,if_false]
   by_cases hcl:c.closed=true
   ·rw [if_pos hcl,if_neg (by simp [hcl])];simp
   ·rw [if_neg hcl,if_pos (by simp [hcl])]
    simp only [Option.isSome_some,true_and]
    intro t ht
    cases ht
    refine ⟨?_,rfl⟩
    have:=hup.chTo e.obj { c with closed:=true } ⟨c0,by simp only;omega,c2,by simp only;omega,fun _=>c3,by simp only;omega,fun hh=>by rw [hk] at hh;simp at hh⟩
    exact this
  ·by_cases k20:e.kind=20
   ·simp only [k20,beq_self_eq_true,if_true,show ((20:Int)==15)=false from rfl,show ((20:Int)==17)=false from rfl,show ((20:Int)==19)=false from rfl,Bool.false_eq_true,if_false]
    cases hb:(c.closed&&c.sent==c.recv) with
    | true=>simp only [if_true,Option.isSome_some,true_and];intro t ht;cases ht;exact ⟨hup,rfl⟩
    | false=>simp
   ·have n19:(e.kind==19)=false:=by simpa using k19
    have n20:(e.kind==20)=false:=by simpa using k20
    by_cases k15:e.kind=15
    ·simp only [k15,beq_self_eq_true,if_true,show ((15:Int)==19)=false from rfl,show ((15:Int)==20)=false from rfl,Bool.false_eq_true,if_false]
     rw [Bool.or_comm c.closed]
     by_cases hb:(e.k != c.sent||c.closed)=true
     ·rw [if_pos hb,if_pos hb];simp
     ·rw [if_neg hb,if_neg hb,hw,hw']
      by_cases hlt:c.sent-c.recv<c.cap
      ·have e1:(decide (0<c.cap)&&decide (c.sent-c.recv<c.cap))=true:=by simp;omega
       rw [if_pos hlt,if_pos e1]
       refine ⟨rfl,fun t ht=>?_⟩
       cases ht
       refine ⟨hst [16] e.g (-1) [⟨16,e.g,0⟩] (.inl k15) rfl (by simp) (by simp) (fun h17=>by omega) (by simp [ownP,qj]) (fun w l hl hw=>?_) (fun w l hl hw x hx=>?_) (by simp),rfl⟩
       ·cases hl;simp only at hw;omega
       ·cases hl;cases hx
      ·have e1:(decide (0<c.cap)&&decide (c.sent-c.recv<c.cap))=false:=by simp [hlt]
       rw [if_neg hlt,if_neg (show ¬ (decide (0<c.cap)&&decide (c.sent-c.recv<c.cap))=true by rw [e1];simp)]
       by_cases h2:(c.cap==0 && !(s.gor==1))=true
       ·have e2:(c.cap==0&&decide (1<r.gor))=true:=by
         simp only [Bool.and_eq_true,beq_iff_eq,Bool.not_eq_true',beq_eq_false_iff_ne,decide_eq_true_eq] at h2 ⊢
         exact ⟨h2.1,by rw [← hgor];have:=h2.2;omega⟩
        rw [if_pos h2,if_pos e2]
        refine ⟨rfl,fun t ht=>?_⟩
        cases ht
        refine ⟨hst [17,18,16] e.g (-1) [⟨17,-1,e.g⟩,⟨18,-1,0⟩,⟨16,e.g,0⟩] (.inl k15) rfl (by simp) (fun _=>k15) (fun h17=>by omega) (by simp [ownP,qj]) (fun w l hl hw=>?_) (fun w l hl hw x hx=>?_) (by simp),rfl⟩
        ·cases hl;exact ⟨by simp [othP,qj],by simp [othP,qj];exact hg0⟩
        ·cases hl;simp only at hw;omega
       ·have e2:(c.cap==0&&decide (1<r.gor))=false:=by
         rw [← hgor]
         cases h3:(c.cap==0) with
         | false=>rfl
         | true =>
          rw [h3] at h2
          simp only [Bool.true_and,Bool.not_eq_true',Bool.not_eq_false,beq_iff_eq] at h2
          simp [h2]
        rw [if_neg h2,if_neg (show ¬ (c.cap==0&&decide (1<r.gor))=true by rw [e2];simp)];simp
    ·have n15:(e.kind==15)=false:=by simpa using k15
     by_cases k17:e.kind=17
     ·simp only [k17,beq_self_eq_true,if_true,show ((17:Int)==19)=false from rfl,show ((17:Int)==20)=false from rfl,show ((17:Int)==15)=false from rfl,Bool.false_eq_true,if_false]
      by_cases hb:(e.k != c.recv)=true
      ·rw [if_pos hb,if_pos hb];simp
      ·rw [if_neg hb,if_neg hb]
       by_cases hlt:c.recv<c.sent
       ·rw [if_pos hlt,if_pos (by simpa using hlt)]
        refine ⟨rfl,fun t ht=>?_⟩
        cases ht
        refine ⟨hst [18] (-1) e.g [⟨18,e.g,0⟩] (.inr k17) rfl (by simp) (by simp) (fun _ _=>hlt) (by simp [ownP,qj]) (fun w l hl hw=>?_) (fun w l hl hw x hx=>?_) (by simp),rfl⟩
        ·cases hl;simp only at hw;omega
        ·cases hl;cases hx
       ·rw [if_neg hlt,if_neg (show ¬ decide (c.recv<c.sent)=true by simpa using hlt)]
        by_cases h2:(!c.closed && !(s.gor==1))=true
        ·have e2:(!c.closed&&decide (1<r.gor))=true:=by
          simp only [Bool.and_eq_true,Bool.not_eq_true',beq_eq_false_iff_ne,decide_eq_true_eq] at h2 ⊢
          exact ⟨h2.1,by rw [← hgor];have:=h2.2;omega⟩
         rw [if_pos h2,if_pos e2]
         refine ⟨rfl,fun t ht=>?_⟩
         cases ht
         refine ⟨hst [15,18,16] (-1) e.g [⟨15,-1,e.g⟩,⟨18,e.g,0⟩,⟨16,-1,0⟩] (.inr k17) rfl (fun _=>k17) (by simp) (fun _ hh=>absurd rfl hh) (by simp [ownP,qj]) (fun w l hl hw=>?_) (fun w l hl hw x hx=>?_) (by simp),rfl⟩
         ·cases hl;exact ⟨by simp [othP,qj],by simp [othP,qj];exact hg0⟩
         ·cases hl;simp only at hw;omega
        ·have e2:(!c.closed&&decide (1<r.gor))=false:=by
          rw [← hgor]
          cases h3:(!c.closed) with
          | false=>rfl
          | true =>
           rw [h3] at h2
           simp only [Bool.true_and,Bool.not_eq_true',Bool.not_eq_false,beq_iff_eq] at h2
           simp [h2]
         rw [if_neg h2,if_neg (show ¬ (!c.closed&&decide (1<r.gor))=true by rw [e2];simp)];simp
     ·have n17:(e.kind==17)=false:=by simpa using k17
      simp [n15,n17,n19,n20]
 ·have d0:(c.cap != e.n)=true:=by simp [hcap]
  simp [d0]
theorem z8T (e:Ev) (w x:Wt):(fixW e w x).kind=x.kind:=by unfold fixW;split <;> rfl
theorem fix_map (e:Ev) (w:Wt) (l:List Wt):(l.map (fixW e w)).map (·.kind)=l.map (·.kind):=by
 rw [List.map_map];exact List.map_congr_left fun x _=>z8T e w x
theorem z0N (o:Gp) (e:Ev) (r:List Int):(z0j o e r).kinds=r:=by unfold z0j;split <;> rfl
theorem z3L (o:Gp) (e:Ev) (r:List Int):(z0j o e r).obj=o.obj:=by unfold z0j;split <;> rfl
theorem ownGp_k (o:Gp) (e:Ev) (r:List Int):(z0j o e r).k=o.k:=by unfold z0j;split <;> rfl
theorem ownGp_n (o:Gp) (e:Ev) (r:List Int):(z0j o e r).n=o.n:=by unfold z0j;split <;> rfl
theorem ownGp_own (o:Gp) (e:Ev) (r:List Int) (k:Int):ownP (z0j o e r).snd (z0j o e r).rcv k=if qj k=qj e.kind then e.g else ownP o.snd o.rcv k:=by
 unfold z0j ownP
 cases h1:qj e.kind <;> cases h2:qj k <;> simp
theorem z8K {s r k k' : Int} (h:qj k=qj k'):ownP s r k=ownP s r k':=by unfold ownP;rw [h]
theorem oth_side {s r k k' : Int} (h:qj k ≠ qj k'):ownP s r k=othP s r k':=by
 unfold ownP othP
 cases h1:qj k <;> cases h2:qj k' <;> simp_all
theorem gk_next {g:Gp} {r:Rs} (h:Gk g r) {w:Wt} {l:List Wt} (hw:r.next=w :: l) (e:Ev) (hk:e.kind=w.kind) (hg0 : 0≤e.g) (hok : 0≤w.g→e.g=w.g):Gk (z0j g e (l.map (·.kind))) (z2X r (l.map (fixW e w))):=by
 have ho:=h.own
 rw [hw] at ho
 have how:=ho w (by simp)
 have hres : ∀ x ∈ l,(fixW e w x).g=(if qj x.kind=qj e.kind then e.g else ownP g.snd g.rcv x.kind) ∧ 0≤(fixW e w x).g:=fun x hx=>by
  have hox:=ho x (List.mem_cons_of_mem _ hx)
  unfold fixW
  by_cases hwg:w.g<0
  ·obtain ⟨_,h2⟩:=h.head w l hw hwg
   by_cases hs:qj x.kind=qj e.kind
   ·rw [if_pos hs]
    have e1:x.g=w.g:=by rw [hox,how];exact z8K (by rw [hs,hk])
    rw [if_pos (by simp;omega)]
    exact ⟨rfl,hg0⟩
   ·rw [if_neg hs]
    have e1:x.g=othP g.snd g.rcv w.kind:=by rw [hox];exact oth_side (by rw [← hk];exact hs)
    rw [if_neg (by simp;omega)]
    exact ⟨hox,by omega⟩
  ·rw [if_neg (by simp;omega)]
   have h0 : 0≤w.g:=by omega
   refine ⟨?_,h.rest w l hw h0 x hx⟩
   by_cases hs:qj x.kind=qj e.kind
   ·rw [if_pos hs,hok h0,hox,how];exact z8K (by rw [hs,hk])
   ·rw [if_neg hs];exact hox
 have hat:=h.at' (by rw [hw];simp)
 have hall : ∀ x' ∈ l.map (fixW e w),0≤x'.g:=fun x' hx'=>by
  obtain ⟨x,hx,rfl⟩:=List.mem_map.1 hx'
  exact (hres x hx).2
 refine ⟨?_,fun _=>?_,fun x' hx'=>?_,fun w' l' hw' hneg=>?_,fun w' l' hw' h0 x' hx'=>?_,fun x hx=>?_⟩
 ·rw [z0N];exact (fix_map e w l).symm
 ·rw [z3L,ownGp_k,ownGp_n];exact hat
 ·obtain ⟨x,hx,rfl⟩:=List.mem_map.1 hx'
  rw [ownGp_own,z8T]
  exact (hres x hx).1
 ·have:=hall w' (by rw [show l.map (fixW e w)=w' :: l' from hw'];simp)
  omega
 ·exact hall x' (by rw [show l.map (fixW e w)=w' :: l' from hw'];exact List.mem_cons_of_mem _ hx')
 ·rw [z0N] at hx
  refine h.tail x ?_
  rw [h.kinds,hw,List.map_cons,List.tail_cons]
  exact List.mem_of_mem_tail hx
theorem sim_group {s:Ps} {r:Rs} {m:Int} (h:Inv s r m) (e:Ev) (hm:m<5000) (hg0 : 0≤e.g) {kd:Int} {ks:List Int} (hk:s.op.kinds=kd :: ks) : ∃ w l,r.next=w :: l∧(z2j s kd ks e).isSome=(z0J r e w l).2 ∧ ∀ t,z2j s kd ks e=some t→Inv t (z0J r e w l).1 (m+1)∧t.ev=s.ev:=by
 have hkn:=h.op.kinds
 rw [hk] at hkn
 cases hw:r.next with
 | nil=>rw [hw] at hkn;cases hkn
 | cons w l =>
  rw [hw] at hkn
  simp only [List.map_cons,List.cons.injEq] at hkn
  obtain ⟨hkd,hks⟩:=hkn
  refine ⟨w,l,rfl,?_⟩
  obtain ⟨a1,a2,a3⟩:=h.op.at' (by rw [hw];simp)
  have how:=h.op.own w (by rw [hw];simp)
  have hbad:badB r e w = !(fitP s.op kd e && !badP (ownP s.op.snd s.op.rcv e.kind) (othP s.op.snd s.op.rcv e.kind) e.g):=by
   unfold badB fitP
   rw [← a1,← a2,← a3,← hkd]
   by_cases hek:e.kind=kd
   ·have e1:ownP s.op.snd s.op.rcv e.kind=w.g:=by rw [how,hek,hkd]
    rw [e1]
    unfold badP
    by_cases hneg:w.g<0
    ·have hh:=(h.op.head w l hw hneg).1
     have e2:othP s.op.snd s.op.rcv e.kind=w.not:=by rw [hh,hek,hkd]
     rw [e2]
     have : ¬ 0≤w.g:=by omega
     simp [hneg,this,Bool.or_assoc]
    ·have h0 : 0≤w.g:=by omega
     simp [hneg,h0,Bool.or_assoc]
   ·have e1:(e.kind != kd)=true:=by simpa using hek
    simp [e1]
  have hproc:z2j s kd ks e=if badB r e w=false then some (countP (z0e s (z0j s.op e ks)) e) else none:=by
   unfold z2j
   rw [hbad]
   cases fitP s.op kd e <;> cases badP (ownP s.op.snd s.op.rcv e.kind) (othP s.op.snd s.op.rcv e.kind) e.g <;> simp
  rw [hproc]
  unfold z0J
  cases hb:badB r e w with
  | true=>simp
  | false =>
   simp only [if_true,Bool.false_eq_true,if_false,Option.isSome_some,true_and]
   intro t ht
   cases ht
   refine ⟨?_,rfl⟩
   have hb2:=hb
   simp only [badB,Bool.or_eq_false_iff,bne_eq_false_iff_eq] at hb2
   obtain ⟨⟨⟨⟨⟨b1,b2⟩,b3⟩,b4⟩,b5⟩,b6⟩:=hb2
   have hok : 0≤w.g→e.g=w.g:=fun h0=>by simpa [h0] using b5
   have hg:=gk_next h.op hw e b1 hg0 hok
   rw [← hks] at hg
   have hobj:e.obj=s.op.obj:=by rw [b2,a1]
   obtain ⟨c,hc⟩:=h.has (by rw [hk];simp)
   rw [← hobj] at hc
   have hco:=h.chb _ _ hc
   have htl : ∀ x ∈ ks,x ≠ 15∧x ≠ 17:=fun x hx=>h.op.tail x (by rw [hk];exact hx)
   have hh15:ks.head? ≠ some 15:=fun h2=>by
    cases ks with
    | nil=>cases h2
    | cons y ks=>cases h2;exact (htl 15 (by simp)).1 rfl
   have hh17:ks.head? ≠ some 17:=fun h2=>by
    cases ks with
    | nil=>cases h2
    | cons y ks=>cases h2;exact (htl 17 (by simp)).2 rfl
   have hhd:s.op.kinds.head? = some e.kind:=by rw [hk,b1,hkd];rfl
   have hoth : ∀ o' c',o' ≠ e.obj→s.ch o' = some c' → ChOk (z0j s.op e ks) (m+1) o' c':=fun o' c' ho hc'=>by
    have h1:=(h.chb _ _ hc').up
    exact ⟨h1.s0,h1.s1,h1.r0,h1.r1,fun _=>h1.le (.inr (by rw [← hobj];exact ho)),h1.le1,fun hh=>by rw [z0N] at hh;exact absurd hh.1 hh17⟩
   have hcnt:countP (z0e s (z0j s.op e ks)) e=qF (z0e s (z0j s.op e ks)) e.obj (qx c e.kind):=by
    unfold countP
    rw [show (z0e s (z0j s.op e ks)).ch e.obj=some c from hc,Option.getD_some]
   have hreq : ∀ c',qx c e.kind=c' → (e.kind=15∨e.kind=17)→z02 (z2X r (l.map (fixW e w))) e=setC (za2 r (l.map (fixW e w)) r.obj r.k r.n) (toCn e.obj c'):=fun c' hc' hk2=>by
    have hcb:qB e.obj e.n (z2X r (l.map (fixW e w))).chans=toCn e.obj c:=by
     have:=h.ch e.obj e.n
     rw [hc,Option.getD_some] at this
     exact this
    unfold z02
    rw [hcb,← hc']
    unfold qx
    rcases hk2 with k|k <;> simp [k,z9X,za7,toCn,z2X,za2]
   have s0:=hco.s0
   have s1:=hco.s1
   have r0:=hco.r0
   have r1:=hco.r1
   have le1:=hco.le1
   by_cases k15:e.kind=15
   ·have hw1:wI (c.sent+1)=c.sent+1:=z5b (by omega) (by omega)
    have e2:qx c e.kind = { c with sent:=c.sent+1 }:=by simp [qx,k15,hw1]
    rw [hcnt,hreq _ e2 (.inl k15),e2]
    refine h.to (z0j s.op e ks) (l.map (fixW e w)) r.obj r.k r.n e.obj _ ⟨hg.kinds,hg.at',hg.own,hg.head,hg.rest,hg.tail⟩ ⟨by simp only;omega,by simp only;omega,r0,by simp only;omega,fun _=>by simp only;omega,by simp only;omega,fun hh=>?_⟩ hoth (by rw [z3L];exact hobj.symm)
    rw [z0N] at hh;exact absurd hh.1 hh17
   ·have hle:=hco.le (.inl (by rw [hhd];simpa using k15))
    by_cases k17:e.kind=17
    ·have hlt:=hco.lt ⟨by rw [hhd,k17],hobj⟩
     have hw1:wI (c.recv+1)=c.recv+1:=z5b (by omega) (by omega)
     have e2:qx c e.kind = { c with recv:=c.recv+1 }:=by simp [qx,k17,hw1]
     rw [hcnt,hreq _ e2 (.inr k17),e2]
     refine h.to (z0j s.op e ks) (l.map (fixW e w)) r.obj r.k r.n e.obj _ ⟨hg.kinds,hg.at',hg.own,hg.head,hg.rest,hg.tail⟩ ⟨by simp only;omega,by simp only;omega,by simp only;omega,by simp only;omega,fun _=>by simp only;omega,by simp only;omega,fun hh=>?_⟩ hoth (by rw [z3L];exact hobj.symm)
     rw [z0N] at hh;exact absurd hh.1 hh17
    ·have e2:qx c e.kind=c:=by simp [qx,k15,k17]
     have e3:z02 (z2X r (l.map (fixW e w))) e=z2X r (l.map (fixW e w)):=by simp [z02,k15,k17]
     rw [hcnt,e2,e3]
     have hinv:=h.opTo (z0j s.op e ks) (l.map (fixW e w)) hg (fun o' c' hc'=>by
      by_cases ho:o' = e.obj
      ·subst ho
       rw [hc] at hc';cases hc'
       exact ⟨s0,by omega,r0,by omega,fun _=>hle,le1,fun hh=>by rw [z0N] at hh;exact absurd hh.1 hh17⟩
      ·exact hoth o' c' ho hc') (fun _=>⟨c,by rw [z3L,← hobj];exact hc⟩)
     exact hinv.sameCh e.obj c hc
theorem sim_add {s:Ps} {r:Rs} {m:Int} (h:Inv s r m) (hev:s.ev=m) (e:Ev):(addP s e).isSome=(addB r e).2 ∧ ∀ t,addP s e=some t→Inv t (addB r e).1 (m+1)∧t.ev=m+1:=by
 have hno:=noAdd_eq h e
 have hg1:=h.gr0
 unfold addP addB
 rw [hno]
 cases hn:z6C r e with
 | true=>simp
 | false =>
  have hn2:=hn
  simp only [z6C,Bool.or_eq_false_iff,Bool.not_eq_false',decide_eq_false_iff_not] at hn2
  obtain ⟨⟨hv,hcn⟩,_⟩:=hn2
  have hm:m<5000:=by rw [← h.ev,hev] at hcn;omega
  have hg0:=(validB_g hv).1
  have hn0:=validB_n hv
  have hstep:(z06 s e).isSome=(z3M r e).2 ∧ ∀ t,z06 s e=some t→Inv t (z3M r e).1 (m+1)∧t.ev=s.ev:=by
   unfold z06
   cases hk:s.op.kinds with
   | cons kd ks =>
    obtain ⟨w,l,h1,h2⟩:=sim_group h e hm hg0 hk
    have:z3M r e=z0J r e w l:=by unfold z3M;rw [h1]
    rw [this]
    exact h2
   | nil =>
    have hnx:=next_nil h hk
    have:z3M r e=if zT e.kind=true then z2J r e else z0L r e:=by unfold z3M;rw [hnx]
    rw [this]
    dsimp only
    cases hc:zT e.kind with
    | true=>simp only [if_true];exact sim_oper h e hm hk hg0 hn0
    | false=>simp only [Bool.false_eq_true,if_false];exact sim_simp h e (by omega) hk
  simp only [Bool.false_eq_true,if_false]
  rw [← hstep.1]
  cases hs:z06 s e with
  | none=>simp
  | some t =>
   obtain ⟨h1,h2⟩:=hstep.2 t hs
   simp only [Option.map_some,Option.isSome_some,if_true,true_and]
   intro t' ht'
   cases ht'
   refine ⟨h1.cnt,?_⟩
   show wI (t.ev+1)=m+1
   rw [h2,hev]
   exact z5b (by omega) (by omega)
theorem go_eq : ∀ (l:List Ev) {s:Ps} {r:Rs} {m:Int} (k:Int),Inv s r m→s.ev=m→goP s l=(goB r k l).2
 | [],_,_,_,_,_,_=>rfl
 | e :: l,s,r,m,k,h,hev=>by
  obtain ⟨h1,h2⟩:=sim_add h hev e
  rw [goP,goB,← h1]
  cases ha:addP s e with
  | none=>simp
  | some t =>
   obtain ⟨h3,h4⟩:=h2 t ha
   simp only [Option.isSome_some,if_true]
   exact go_eq l (k+1) h3 h4
theorem z3T (l:List Ev):goP ps0 l=(qo l).2:=go_eq l 0 inv0 rfl
structure Pv (s:Ps):Prop where
 ev0 : 0≤s.ev
 gor1 : 1≤s.gor
 gor2:s.gor≤s.ev+1
 kinds : ∀ x ∈ s.op.kinds,15≤x∧x≤18
 has:s.op.kinds ≠ [] → ∃ c,s.ch s.op.obj=some c∧c.cap=s.op.n
theorem pv0:Pv ps0:=⟨Int.le_refl _,Int.le_refl _,by decide,fun x h=>(by cases h),fun h=>absurd rfl h⟩
structure St1 (s:Ps) (e:Ev) (t:Ps):Prop where
 ev:t.ev=s.ev
 gor:(e.kind=14∧e.k=s.gor∧t.gor=wI (s.gor+1))∨(e.kind ≠ 14∧t.gor=s.gor)
 kinds : ∀ x ∈ t.op.kinds,15≤x∧x≤18
 has:t.op.kinds ≠ [] → ∃ c,t.ch t.op.obj=some c∧c.cap=t.op.n
 keep : ∀ o c,s.ch o=some c → ∃ c',t.ch o=some c' ∧ c'.cap=c.cap
 cap:zT e.kind=true→(∃ c,t.ch e.obj=some c∧c.cap=e.n) ∧ ∀ c,s.ch e.obj=some c→c.cap=e.n
theorem z1h (c:Ch) (k:Int):(qx c k).cap=c.cap:=by
 unfold qx
 split
 ·rfl
 ·split <;> rfl
theorem proc_st {s:Ps} (h:Pv s) {kd:Int} {r:List Int} (hk:s.op.kinds=kd :: r) {e:Ev} {t:Ps} (ht:z2j s kd r e=some t):St1 s e t:=by
 unfold z2j at ht
 split at ht
 ·rename_i hc
  cases ht
  obtain ⟨hf,_⟩:=hc
  simp only [fitP,Bool.not_eq_true',Bool.or_eq_false_iff,bne_eq_false_iff_eq] at hf
  obtain ⟨⟨⟨f1,f2⟩,f3⟩,f4⟩:=hf
  have hkd:=h.kinds kd (by rw [hk];simp)
  obtain ⟨c,hc1,hc2⟩:=h.has (by rw [hk];simp)
  have hop:(z0j s.op e r).kinds=r∧(z0j s.op e r).obj=s.op.obj∧(z0j s.op e r).n=s.op.n:=by unfold z0j;split <;> exact ⟨rfl,rfl,rfl⟩
  have hch : ∀ o,(countP (z0e s (z0j s.op e r)) e).ch o=if o=e.obj then some (qx c e.kind) else s.ch o:=fun o=>by
   simp only [countP,qF,z0e]
   rw [f2,hc1];rfl
  refine ⟨rfl,.inr ⟨by omega,rfl⟩,fun x hx=>?_,fun hne=>?_,fun o c' ho=>?_,fun _=>⟨⟨qx c e.kind,by rw [hch,if_pos rfl],by rw [z1h,hc2,f4]⟩,fun c' hc'=>?_⟩⟩
  ·have hx' : x ∈ r:=by have:=hop.1;simp only [countP,qF,z0e] at hx;rw [this] at hx;exact hx
   exact h.kinds x (by rw [hk];simp [hx'])
  ·refine ⟨qx c e.kind,?_,?_⟩
   ·rw [hch]
    have:(countP (z0e s (z0j s.op e r)) e).op.obj=e.obj:=by show (z0j s.op e r).obj=e.obj;rw [hop.2.1,f2]
    rw [this,if_pos rfl]
   ·rw [z1h,hc2]
    exact hop.2.2.symm
  ·rw [hch]
   split
   ·rename_i e1
    rw [e1,f2,hc1] at ho
    cases ho
    exact ⟨_,rfl,z1h _ _⟩
   ·exact ⟨c',ho,rfl⟩
  ·rw [f2,hc1] at hc'
   cases hc'
   rw [hc2,f4]
 ·cases ht
theorem z8U {s:Ps} {e:Ev} (he:e.kind=15∨e.kind=17) (hcap:(zY s e).cap=e.n) (kinds:List Int) (hk : ∀ x ∈ kinds,15≤x∧x≤18) (snd rcv:Int):St1 s e (z1x s e (zY s e) kinds snd rcv):=by
 have hch : ∀ o,(z1x s e (zY s e) kinds snd rcv).ch o=if o=e.obj then some (qx (zY s e) e.kind) else s.ch o:=fun o=>by
  simp only [z1x,countP,qF,z0e,if_true,Option.getD_some]
  split
  ·rfl
  ·rename_i h;rfl
 refine ⟨rfl,.inr ⟨by omega,rfl⟩,hk,fun _=>⟨qx (zY s e) e.kind,?_,by rw [z1h,hcap];rfl⟩,fun o c ho=>?_,fun _=>⟨⟨_,by rw [hch,if_pos rfl],by rw [z1h,hcap]⟩,fun c hc=>?_⟩⟩
 ·rw [hch];exact if_pos rfl
 ·rw [hch]
  split
  ·rename_i e1
   subst e1
   exact ⟨_,rfl,by rw [z1h];simp [zY,ho]⟩
  ·exact ⟨c,ho,rfl⟩
 ·rw [zY,hc] at hcap;exact hcap
theorem oper_st {s:Ps} (hn:s.op.kinds = []) {e:Ev} {t:Ps} (ht:qO s e=some t):St1 s e t:=by
 unfold qO at ht
 split at ht
 ·cases ht
 ·rename_i hcap
  have hcap' : (zY s e).cap=e.n:=by simpa using hcap
  have hold : ∀ c,s.ch e.obj=some c→c.cap=e.n:=fun c hc=>by rw [zY,hc] at hcap';exact hcap'
  split at ht
  ·rename_i hk
   split at ht
   ·cases ht
   ·cases ht
    have hch : ∀ o,(qF s e.obj { zY s e with closed:=true }).ch o=if o=e.obj then some { zY s e with closed:=true } else s.ch o:=fun o=>rfl
    refine ⟨rfl,.inr ⟨by simp at hk;omega,rfl⟩,fun x hx=>?_,fun hne=>absurd hn hne,fun o c ho=>?_,fun _=>⟨⟨{ zY s e with closed:=true },by rw [hch,if_pos rfl],hcap'⟩,hold⟩⟩
    ·rw [show (qF s e.obj { zY s e with closed:=true }).op.kinds=s.op.kinds from rfl,hn] at hx;cases hx
    ·rw [hch]
     split
     ·rename_i e1;subst e1;exact ⟨_,rfl,by simp [zY,ho]⟩
     ·exact ⟨c,ho,rfl⟩
  ·split at ht
   ·rename_i hk
    split at ht
    ·rename_i hcl
     cases ht
     have : ∃ c,s.ch e.obj=some c:=by
      cases hc:s.ch e.obj with
      | some c=>exact ⟨c,rfl⟩
      | none=>simp [zY,hc,ch0] at hcl
     obtain ⟨c,hc⟩:=this
     refine ⟨rfl,.inr ⟨by simp at hk;omega,rfl⟩,fun x hx=>?_,fun hne=>absurd hn hne,fun o c ho=>⟨c,ho,rfl⟩,fun _=>⟨⟨c,hc,hold c hc⟩,hold⟩⟩
     rw [hn] at hx;cases hx
    ·cases ht
   ·split at ht
    ·rename_i hk
     have hk' : e.kind=15∨e.kind=17 := .inl (by simpa using hk)
     repeat' (split at ht)
     all_goals first|(cases ht;done)|(cases ht;exact z8U hk' hcap' _ (by simp) _ _)
    ·split at ht
     ·rename_i hk
      have hk' : e.kind=15∨e.kind=17 := .inr (by simpa using hk)
      repeat' (split at ht)
      all_goals first|(cases ht;done)|(cases ht;exact z8U hk' hcap' _ (by simp) _ _)
     ·cases ht
theorem simp_st {s:Ps} (hn:s.op.kinds = []) {e:Ev} (hc:zT e.kind=false) {t:Ps} (ht:qN s e=some t):St1 s e t:=by
 have key:t.ev=s.ev∧t.ch=s.ch∧t.op=s.op∧((e.kind=14∧e.k=s.gor∧t.gor=wI (s.gor+1))∨(e.kind ≠ 14∧t.gor=s.gor)):=by
  unfold qN at ht
  by_cases h14:e.kind=14
  ·simp only [h14] at ht
   simp at ht
   obtain ⟨h1,rfl⟩:=ht
   exact ⟨rfl,rfl,rfl,.inl ⟨h14,h1,rfl⟩⟩
  ·have h14' : (e.kind==14)=false:=by simpa using h14
   simp only [h14',Bool.false_eq_true,if_false] at ht
   repeat' (split at ht)
   all_goals first|(cases ht;done)|(cases ht;exact ⟨rfl,rfl,rfl,.inr ⟨h14,rfl⟩⟩)
 obtain ⟨k1,k2,k3,k4⟩:=key
 refine ⟨k1,k4,fun x hx=>?_,fun hne=>?_,fun o c ho=>⟨c,by rw [k2];exact ho,rfl⟩,fun h=>by rw [hc] at h;cases h⟩
 ·rw [k3,hn] at hx;cases hx
 ·rw [k3] at hne;exact absurd hn hne
theorem step_st {s:Ps} (h:Pv s) {e:Ev} {t:Ps} (ht:z06 s e=some t):St1 s e t:=by
 unfold z06 at ht
 split at ht
 ·rename_i kd r hk;exact proc_st h hk ht
 ·rename_i hk
  split at ht
  ·exact oper_st hk ht
  ·rename_i hc;exact simp_st hk (by simpa using hc) ht
structure St2 (s:Ps) (e:Ev) (t:Ps):Prop where
 pv:Pv t
 gor:(e.kind=14∧e.k=s.gor∧t.gor=s.gor+1)∨(e.kind ≠ 14∧t.gor=s.gor)
 keep : ∀ o c,s.ch o=some c → ∃ c',t.ch o=some c' ∧ c'.cap=c.cap
 cap:zT e.kind=true→(∃ c,t.ch e.obj=some c∧c.cap=e.n) ∧ ∀ c,s.ch e.obj=some c→c.cap=e.n
 lt:e.g<s.gor
theorem add_st {s:Ps} (h:Pv s) {e:Ev} {t:Ps} (ht:addP s e=some t):St2 s e t:=by
 unfold addP at ht
 split at ht
 ·cases ht
 ·rename_i hn
  simp only [z3A,Bool.or_eq_true,decide_eq_true_eq,not_or] at hn
  obtain ⟨⟨_,n2⟩,n3⟩:=hn
  obtain ⟨u,hu,rfl⟩:=Option.map_eq_some_iff.1 ht
  have hs:=step_st h hu
  have h1:=h.ev0
  have h2:=h.gor1
  have h3:=h.gor2
  have he:wI (u.ev+1)=s.ev+1:=by rw [hs.ev];simp only [wI,IntKind.wrap_i64];omega
  have hg:(e.kind=14∧e.k=s.gor∧u.gor=s.gor+1)∨(e.kind ≠ 14∧u.gor=s.gor):=by
   rcases hs.gor with ⟨g1,g2,g3⟩|g
   ·refine .inl ⟨g1,g2,?_⟩
    rw [g3];simp only [wI,IntKind.wrap_i64];omega
   ·exact .inr g
  refine ⟨⟨?_,?_,?_,hs.kinds,hs.has⟩,hg,hs.keep,hs.cap,by omega⟩
  ·show 0≤wI (u.ev+1);omega
  ·show 1≤u.gor;rcases hg with g|g <;> omega
  ·show u.gor≤wI (u.ev+1)+1;rcases hg with g|g <;> omega
theorem goP_at : ∀ {l:List Ev} {s:Ps},goP s l=true→Pv s → ∀ {i:Nat} {x:Ev},l[i]? = some x → ∃ si ti,Pv si∧St2 si x ti∧goP ti (l.drop (i+1))=true
 | [],s,_,_,i,x,hx=>by simp at hx
 | e :: r,s,hg,hp,i,x,hx=>by
  rw [goP] at hg
  cases ha:addP s e with
  | none=>rw [ha] at hg;cases hg
  | some t =>
   rw [ha] at hg
   have h2:=add_st hp ha
   cases i with
   | zero =>
    cases hx
    exact ⟨s,t,hp,h2,hg⟩
   | succ i=>exact goP_at hg h2.pv hx
theorem goP_gor : ∀ {l:List Ev} {s:Ps},goP s l=true→Pv s → ∀ e ∈ l,e.kind=14→s.gor≤e.k
 | [],s,_,_,e,h=>by cases h
 | x :: r,s,hg,hp,e,h=>by
  rw [goP] at hg
  cases ha:addP s x with
  | none=>rw [ha] at hg;cases hg
  | some t =>
   rw [ha] at hg
   have h2:=add_st hp ha
   intro hk
   rcases List.mem_cons.1 h with rfl|h
   ·rcases h2.gor with ⟨_,g,_⟩|⟨g,_⟩
    ·omega
    ·exact absurd hk g
   ·have:=goP_gor hg h2.pv e h hk
    rcases h2.gor with ⟨_,_,g⟩|⟨_,g⟩ <;> omega
theorem goP_cap : ∀ {l:List Ev} {s:Ps},goP s l=true→Pv s → ∀ e ∈ l,zT e.kind=true → ∀ c,s.ch e.obj=some c→c.cap=e.n
 | [],s,_,_,e,h=>by cases h
 | x :: r,s,hg,hp,e,h=>by
  rw [goP] at hg
  cases ha:addP s x with
  | none=>rw [ha] at hg;cases hg
  | some t =>
   rw [ha] at hg
   have h2:=add_st hp ha
   intro hk c hc
   rcases List.mem_cons.1 h with rfl|h
   ·exact (h2.cap hk).2 c hc
   ·obtain ⟨c',h3,h4⟩:=h2.keep _ _ hc
    rw [← h4]
    exact goP_cap hg h2.pv e h hk c' h3
theorem z5c {l:List Ev} {i j:Nat} {y:Ev} (hij:i<j) (hy:l[j]? = some y):y ∈ l.drop (i+1):=by
 refine List.mem_iff_getElem?.2 ⟨j-(i+1),?_⟩
 rw [List.getElem?_drop,show i+1+(j-(i+1))=j by omega,hy]
theorem starts_ne {l:List Ev} (h:(qo l).2=true) {i j:Nat} {x y:Ev} (hij:i<j) (hx:l[i]? = some x) (hy:l[j]? = some y) (kx:x.kind=14) (ky:y.kind=14):x.k ≠ y.k:=by
 rw [← z3T] at h
 obtain ⟨si,ti,h1,h2,h3⟩:=goP_at h pv0 hx
 have:=goP_gor h3 h2.pv y (z5c hij hy) ky
 rcases h2.gor with ⟨_,g1,g2⟩|⟨g,_⟩
 ·omega
 ·exact absurd kx g
theorem caps_eq {l:List Ev} (h:(qo l).2=true) {i j:Nat} {x y:Ev} (hij:i<j) (hx:l[i]? = some x) (hy:l[j]? = some y) (kx:zT x.kind=true) (ky:zT y.kind=true) (ho:x.obj=y.obj):x.n=y.n:=by
 rw [← z3T] at h
 obtain ⟨si,ti,h1,h2,h3⟩:=goP_at h pv0 hx
 obtain ⟨⟨c,hc1,hc2⟩,_⟩:=h2.cap kx
 have:=goP_cap h3 h2.pv y (z5c hij hy) ky c (by rw [← ho];exact hc1)
 rw [← hc2,this]
def z3w (l:List Ev) (x:Ev) (j:Nat):Bool := !(l.take j).any (fun e=>e.g==x.g)
theorem first_ok (l:List Ev) (j:Nat) (x:Ev) (hx:l[j]? = some x) (hl:l.length≤1000000):zx Tryz.prog 44 [.p (.seq 9 (l.map evC)),.int j] (.bool (z3w l x j)):=by
 have hjl:j<l.length:=(List.getElem?_eq_some_iff.1 hx).1
 refine zx.of Tryz.func44 rfl 22 rfl (by decide) (by simp [AV.okB]) ?_
 repeat' (first|refine T.zh fun K hK=>?_|apply T.block|(refine T.reg (by kernel_rfl) fun K' hK'=>?_;simp only [bz];(with_reducible repeat' (first|(apply WL.fin;apply hK';clear hK' K')|(refine WL.step fun K2 hK2=>?_;simp only [simprocAttr,az];repeat' (first|(apply hK2;clear hK2 K2)|apply And.intro|intro hb)))))|apply T.skip|apply T.exit|refine T.zg rfl ?_|refine T.zf rfl ?_|refine T.cond rfl (fun hc=>?_) (fun hc=>?_)|apply T.ret|simp only [zb,za,reduceIte,Nat.reduceEqDiff]|((repeat ((fail_if_success apply hK);clear hK K));apply hK;clear hK K))
 refine T.qC (fun k:Nat=>⟨[(0,.p (.seq 9 (l.map evC))),(1,.int j),(5,.int k)],[],22,0⟩) (fun k=>k≤j∧(l.take k).any (fun e=>e.g==x.g)=false) (fun k=>j-k) 0 ⟨Nat.zero_le _,rfl⟩ (by refine zk.of' rfl ?_;simp only [wks,reduceIte,Nat.reduceEqDiff,ASt.okB,AV.okB,Nat.reduceLT,implies_true,Int.natCast_zero]) ?_
 rintro k ⟨hk,hn⟩ KL hKL
 by_cases hlt:k<j
 ·obtain ⟨y,hy⟩:=zQ (show k<l.length by omega)
  have hd:decide ((k:Int)<(j:Int))=true:=by simpa using hlt
  have hany:(l.take (k+1)).any (fun e=>e.g==x.g)=(y.g==x.g):=by
   rw [List.take_add_one,hy,List.any_append,hn];simp
  have hbad:(y.g==x.g)=true→z3w l x j=false:=fun h=>by
   unfold z3w
   rw [List.any_eq_true.2 ⟨y,List.mem_take_iff_getElem.2 ⟨k,by omega,(List.getElem?_eq_some_iff.1 hy).2⟩,h⟩]
   rfl
  repeat' (first|refine T.zh fun K hK=>?_|apply T.block|(refine T.reg (by kernel_rfl) fun K' hK'=>?_;simp only [bz];(with_reducible repeat' (first|(apply WL.fin;apply hK';clear hK' K')|(refine WL.step fun K2 hK2=>?_;simp only [simprocAttr,az,hx,hy,hd,evC];repeat' (first|(apply hK2;clear hK2 K2)|apply And.intro|intro hb)))))|apply T.skip|apply T.exit|refine T.zg rfl ?_|refine T.zf rfl ?_|refine T.cond rfl (fun hc=>?_) (fun hc=>?_)|apply T.ret|simp only [zb,za,reduceIte,Nat.reduceEqDiff]|((repeat ((fail_if_success apply hK);clear hK K));apply hK;clear hK K))
  refine T.drw 10 (by kernel_rfl) (by kernel_rfl) fun K' hK'=>?_;simp only [List.map_cons,List.map_nil];(repeat' (first|(with_reducible refine WL.fin ?_;apply hK';clear hK' K')|(with_reducible refine WD.fin ?_)|((with_reducible first|refine WL.step fun K2 hK2=>?_|refine WD.step fun K2 hK2=>?_);simp only [simprocAttr,az,hx,hy,hd,evC];(repeat' with_reducible (first|(apply hK2;clear hK2 K2)|apply And.intro|intro hb)))));all_goals ((try simp only [zb,za,reduceIte,Nat.reduceEqDiff]);(try ((repeat ((fail_if_success apply hK);clear hK K));apply hK;clear hK K)))
  all_goals repeat' (first|refine T.zh fun K hK=>?_|apply T.block|(refine T.reg (by kernel_rfl) fun K' hK'=>?_;simp only [bz];(with_reducible repeat' (first|(apply WL.fin;apply hK';clear hK' K')|(refine WL.step fun K2 hK2=>?_;simp only [simprocAttr,az,hx,hy,hd,evC];repeat' (first|(apply hK2;clear hK2 K2)|apply And.intro|intro hb)))))|apply T.skip|apply T.exit|refine T.zg rfl ?_|refine T.zf rfl ?_|refine T.cond rfl (fun hc=>?_) (fun hc=>?_)|apply T.ret|simp only [zb,za,reduceIte,Nat.reduceEqDiff]|((repeat ((fail_if_success apply hK);clear hK K));apply hK;clear hK K))
  ·refine zH.ret (.inr rfl) Tryz.results44 ?_;simp only [zw,zt,zq,simprocAttr,az,]
   rw [hbad hc]
  ·exact hKL _ (k+1) (by refine zk.of' rfl ?_;simp only [wks,reduceIte,Nat.reduceEqDiff,ASt.okB,AV.okB,Nat.reduceLT,implies_true,zu (show k<1152921504606846976 by omega)]) ⟨by omega,by rw [hany];exact hc⟩ (by omega)
 ·have hd:decide ((k:Int)<(j:Int))=false:=by simpa using hlt
  obtain rfl:k=j:=by omega
  repeat' (first|refine T.zh fun K hK=>?_|apply T.block|(refine T.reg (by kernel_rfl) fun K' hK'=>?_;simp only [bz];(with_reducible repeat' (first|(apply WL.fin;apply hK';clear hK' K')|(refine WL.step fun K2 hK2=>?_;simp only [simprocAttr,az,hd];repeat' (first|(apply hK2;clear hK2 K2)|apply And.intro|intro hb)))))|apply T.skip|apply T.exit|refine T.zg rfl ?_|refine T.zf rfl ?_|refine T.cond rfl (fun hc=>?_) (fun hc=>?_)|apply T.ret|simp only [zb,za,reduceIte,Nat.reduceEqDiff]|((repeat ((fail_if_success apply hK);clear hK K));apply hK;clear hK K))
  refine zH.ret (.inr rfl) Tryz.results44 ?_;simp only [zw,zt,zq,simprocAttr,az,]
  simp [z3w,hn]
def z1W (l:List Ev) (x y:Ev) (i j:Nat):Bool := !(x.g != y.g) && !((l.take j).drop (i+1)).any (fun e=>e.g==x.g)
theorem z9g {l:List Ev} {i k:Nat} {z:Ev} (hz:l[k]? = some z) (hi:i+1≤k):(l.take (k+1)).drop (i+1)=(l.take k).drop (i+1) ++ [z]:=by
 have:=(List.getElem?_eq_some_iff.1 hz).1
 rw [List.take_add_one,hz,List.drop_append_of_le_length (by simp;omega)];rfl
theorem z9I (l:List Ev) (i j:Nat) (x y:Ev) (hx:l[i]? = some x) (hy:l[j]? = some y) (hij:i<j) (hl:l.length≤1000000):zx Tryz.prog 43 [.p (.seq 9 (l.map evC)),.int i,.int j] (.bool (z1W l x y i j)):=by
 have hjl:j<l.length:=(List.getElem?_eq_some_iff.1 hy).1
 refine zx.of Tryz.func43 rfl 37 rfl (by decide) (by simp [AV.okB]) ?_
 repeat' (first|refine T.zh fun K hK=>?_|apply T.block|(refine T.reg (by kernel_rfl) fun K' hK'=>?_;simp only [bz];(with_reducible repeat' (first|(apply WL.fin;apply hK';clear hK' K')|(refine WL.step fun K2 hK2=>?_;simp only [simprocAttr,az];repeat' (first|(apply hK2;clear hK2 K2)|apply And.intro|intro hb)))))|apply T.skip|apply T.exit|refine T.zg rfl ?_|refine T.zf rfl ?_|refine T.cond rfl (fun hc=>?_) (fun hc=>?_)|apply T.ret|simp only [zb,za,reduceIte,Nat.reduceEqDiff]|((repeat ((fail_if_success apply hK);clear hK K));apply hK;clear hK K))
 refine T.drw 11 (by kernel_rfl) (by kernel_rfl) fun K' hK'=>?_;simp only [List.map_cons,List.map_nil];(repeat' (first|(with_reducible refine WL.fin ?_;apply hK';clear hK' K')|(with_reducible refine WD.fin ?_)|((with_reducible first|refine WL.step fun K2 hK2=>?_|refine WD.step fun K2 hK2=>?_);simp only [simprocAttr,az,hx,hy,evC];(repeat' with_reducible (first|(apply hK2;clear hK2 K2)|apply And.intro|intro hb)))));all_goals ((try simp only [zb,za,reduceIte,Nat.reduceEqDiff]);(try ((repeat ((fail_if_success apply hK);clear hK K));apply hK;clear hK K)))
 all_goals repeat' (first|refine T.zh fun K hK=>?_|apply T.block|(refine T.reg (by kernel_rfl) fun K' hK'=>?_;simp only [bz];(repeat' (first|(with_reducible refine WL.fin ?_;apply hK';clear hK' K')|((with_reducible refine WL.step fun K2 hK2=>?_);simp only [simprocAttr,az,zu (show i<1152921504606846976 by omega)];(repeat' with_reducible (first|(apply hK2;clear hK2 K2)|apply And.intro|intro hb))))))|apply T.skip|apply T.exit|refine T.zg rfl ?_|refine T.zf rfl ?_|refine T.cond rfl (fun hc=>?_) (fun hc=>?_)|apply T.ret|simp only [zb,za,reduceIte,Nat.reduceEqDiff]|((repeat ((fail_if_success apply hK);clear hK K));apply hK;clear hK K))
 ·refine zH.ret (.inr rfl) Tryz.results43 ?_;simp only [zw,zt,zq,simprocAttr,az,]
  simp [z1W,hc]
 ·refine T.qC (fun k:Nat=>⟨[(0,.p (.seq 9 (l.map evC))),(1,.int i),(2,.int j),(7,.int k)],[],37,0⟩) (fun k=>i+1≤k∧k≤j∧((l.take k).drop (i+1)).any (fun e=>e.g==x.g)=false) (fun k=>j-k) (i+1) ⟨Nat.le_refl _,hij,by rw [List.drop_eq_nil_of_le (by simp;omega)];rfl⟩ (by refine zk.of' rfl ?_;simp only [wks,reduceIte,Nat.reduceEqDiff,ASt.okB,AV.okB,Nat.reduceLT,implies_true,Int.natCast_zero]) ?_
  rintro k ⟨hk0,hk,hn⟩ KL hKL
  by_cases hlt:k<j
  ·obtain ⟨z,hz⟩:=zQ (show k<l.length by omega)
   have hd:decide ((k:Int)<(j:Int))=true:=by simpa using hlt
   have hany:((l.take (k+1)).drop (i+1)).any (fun e=>e.g==x.g)=(z.g==x.g):=by
    rw [z9g hz hk0,List.any_append,hn];simp
   have hbad:(z.g==x.g)=true→z1W l x y i j=false:=fun h=>by
    have hm:z ∈ (l.take j).drop (i+1):=by
     refine List.mem_iff_getElem?.2 ⟨k-(i+1),?_⟩
     rw [List.getElem?_drop,show i+1+(k-(i+1))=k by omega,List.getElem?_take,if_pos hlt,hz]
    unfold z1W
    rw [List.any_eq_true.2 ⟨z,hm,h⟩]
    simp
   repeat' (first|refine T.zh fun K hK=>?_|apply T.block|(refine T.reg (by kernel_rfl) fun K' hK'=>?_;simp only [bz];(with_reducible repeat' (first|(apply WL.fin;apply hK';clear hK' K')|(refine WL.step fun K2 hK2=>?_;simp only [simprocAttr,az,hx,hz,hd,evC];repeat' (first|(apply hK2;clear hK2 K2)|apply And.intro|intro hb)))))|apply T.skip|apply T.exit|refine T.zg rfl ?_|refine T.zf rfl ?_|refine T.cond rfl (fun hc=>?_) (fun hc=>?_)|apply T.ret|simp only [zb,za,reduceIte,Nat.reduceEqDiff]|((repeat ((fail_if_success apply hK);clear hK K));apply hK;clear hK K))
   refine T.drw 11 (by kernel_rfl) (by kernel_rfl) fun K' hK'=>?_;simp only [List.map_cons,List.map_nil];(repeat' (first|(with_reducible refine WL.fin ?_;apply hK';clear hK' K')|(with_reducible refine WD.fin ?_)|((with_reducible first|refine WL.step fun K2 hK2=>?_|refine WD.step fun K2 hK2=>?_);simp only [simprocAttr,az,hx,hz,hd,evC];(repeat' with_reducible (first|(apply hK2;clear hK2 K2)|apply And.intro|intro hb)))));all_goals ((try simp only [zb,za,reduceIte,Nat.reduceEqDiff]);(try ((repeat ((fail_if_success apply hK);clear hK K));apply hK;clear hK K)))
   all_goals repeat' (first|refine T.zh fun K hK=>?_|apply T.block|(refine T.reg (by kernel_rfl) fun K' hK'=>?_;simp only [bz];(with_reducible repeat' (first|(apply WL.fin;apply hK';clear hK' K')|(refine WL.step fun K2 hK2=>?_;simp only [simprocAttr,az,hx,hz,hd,evC];repeat' (first|(apply hK2;clear hK2 K2)|apply And.intro|intro hb)))))|apply T.skip|apply T.exit|refine T.zg rfl ?_|refine T.zf rfl ?_|refine T.cond rfl (fun hc=>?_) (fun hc=>?_)|apply T.ret|simp only [zb,za,reduceIte,Nat.reduceEqDiff]|((repeat ((fail_if_success apply hK);clear hK K));apply hK;clear hK K))
   ·refine zH.ret (.inr rfl) Tryz.results43 ?_;simp only [zw,zt,zq,simprocAttr,az,]
    rw [hbad hc]
   ·exact hKL _ (k+1) (by refine zk.of' rfl ?_;simp only [wks,reduceIte,Nat.reduceEqDiff,ASt.okB,AV.okB,Nat.reduceLT,implies_true,zu (show k<1152921504606846976 by omega)]) ⟨by omega,by omega,by rw [hany];exact hc⟩ (by omega)
  ·have hd:decide ((k:Int)<(j:Int))=false:=by simpa using hlt
   obtain rfl:k=j:=by omega
   repeat' (first|refine T.zh fun K hK=>?_|apply T.block|(refine T.reg (by kernel_rfl) fun K' hK'=>?_;simp only [bz];(with_reducible repeat' (first|(apply WL.fin;apply hK';clear hK' K')|(refine WL.step fun K2 hK2=>?_;simp only [simprocAttr,az,hd];repeat' (first|(apply hK2;clear hK2 K2)|apply And.intro|intro hb)))))|apply T.skip|apply T.exit|refine T.zg rfl ?_|refine T.zf rfl ?_|refine T.cond rfl (fun hc=>?_) (fun hc=>?_)|apply T.ret|simp only [zb,za,reduceIte,Nat.reduceEqDiff]|((repeat ((fail_if_success apply hK);clear hK K));apply hK;clear hK K))
   refine zH.ret (.inr rfl) Tryz.results43 ?_;simp only [zw,zt,zq,simprocAttr,az,]
   simp [z1W,hn,hc]
end Go.Proofs.YtdlgoofjechocaaGreatDoor
namespace Go.Proofs.YtdlgoofjechocaaGreatDoor
open Go.RowKit Go.Sort Go.Maps
theorem zk.upN (s:ASt) (m:Nat) (hm:s.N≤m):zk s { s with N:=m }:=fun L loc ac w hr =>
 ⟨loc,⟨hr.defers,hr.size,fun t ht=>(hr.fr t ht).mono hm (Kp.refl _ _) (fun _ _ h=>h) (fun _ _ _ h=>h),⟨fun t o ho=>let ⟨h1,u,h2,h3⟩:=hr.hp.at' t o ho;⟨Nat.lt_of_lt_of_le h1 hm,u,h2,h3.mono hm (Kp.refl _ _) (fun _ _ h=>h) (fun _ _ _ h=>h) (fun _ _=>rfl)⟩,hr.hp.dead,hr.hp.apart,hr.hp.inL,hr.hp.notL⟩⟩,Ext.refl _ _⟩
theorem zk.obj (s:ASt) (t:Nat) (o o' : AO) (hlk:s.hp.lookup t=some o) (hle : ∀ N D loc w u,OR N D loc w u o→OR N D loc w u o'):zk s { s with hp:=zF s.hp t o' }:=fun L loc ac w hr=>by
 refine ⟨loc,⟨hr.defers,hr.size,hr.fr,⟨fun k ob hk=>?_,fun k hk=>?_,hr.hp.apart,hr.hp.inL,hr.hp.notL⟩⟩,Ext.refl _ _⟩
 ·change (zF s.hp t _).lookup k=some ob at hk
  rw [zB] at hk
  by_cases e1:k=t
  ·subst e1
   rw [if_pos rfl,hlk] at hk
   cases hk
   obtain ⟨h1,u,h2,h3⟩:=hr.hp.at' k _ hlk
   exact ⟨h1,u,h2,hle _ _ _ _ _ h3⟩
  ·rw [if_neg e1] at hk
   exact hr.hp.at' k ob hk
 ·change (zF s.hp t _).lookup k=none at hk
  rw [zB] at hk
  by_cases e1:k=t
  ·subst e1;rw [if_pos rfl,hlk] at hk;cases hk
  ·rw [if_neg e1] at hk;exact hr.hp.dead k hk
theorem zk.hpe (s:ASt) (hp' : Hp) (h : ∀ t,hp'.lookup t=s.hp.lookup t):zk s { s with hp:=hp' }:=fun L loc ac w hr =>
 ⟨loc,⟨hr.defers,hr.size,hr.fr,⟨fun k o hk=>hr.hp.at' k o (by rw [← h k];exact hk),fun k hk=>hr.hp.dead k (by rw [← h k];exact hk),hr.hp.apart,hr.hp.inL,hr.hp.notL⟩⟩,Ext.refl _ _⟩
theorem OR.toA {N:Nat} {D:Nat→Prop} {loc:Nat→Option Value} {w:World} {u:Value} {e:Nat} {cs:List PV} (h:OR N D loc w u (.row e 1 (cs.map fun x => [x]))):OR N D loc w u (.arow e (cs.map .p)):=by
 obtain ⟨flat,h1,h2,h3,h4⟩:=h
 refine ⟨flat,by rw [List.length_map] at h1 ⊢;exact h1,fun j x hx=>?_,h4⟩
 simp only [List.getElem?_map,Option.map_eq_some_iff] at hx
 obtain ⟨c,hc,rfl⟩:=hx
 obtain ⟨v,h5,h6⟩:=h3 j [c] 0 c (by rw [List.getElem?_map,hc];rfl) rfl
 exact ⟨v,by simpa using h5,.p _ _ h6⟩
theorem OR.ofA {N:Nat} {D:Nat→Prop} {loc:Nat→Option Value} {w:World} {u:Value} {e:Nat} {cs:List PV} (h:OR N D loc w u (.arow e (cs.map .p))):OR N D loc w u (.row e 1 (cs.map fun x => [x])):=by
 obtain ⟨flat,h1,h3,h4⟩:=h
 refine ⟨flat,by rw [List.length_map] at h1 ⊢;exact h1,fun r hr=>?_,fun k r j x hk hx=>?_,h4⟩
 ·obtain ⟨c,_,rfl⟩:=List.mem_map.1 hr;rfl
 ·simp only [List.getElem?_map,Option.map_eq_some_iff] at hk
  obtain ⟨c,hc,rfl⟩:=hk
  cases j with
  | succ j=>simp at hx
  | zero =>
   cases hx
   obtain ⟨v,h5,h6⟩:=h3 k (.p x) (by rw [List.getElem?_map,hc];rfl)
   exact ⟨v,by simpa using h5,by cases h6 with|p _ _ h=>exact h⟩
theorem OR.toM {N:Nat} {D:Nat→Prop} {loc:Nat→Option Value} {w:World} {u:Value} {pin:Option Nat} {P:Program} {k n:Nat} (h:OR N D loc w u (.map pin P k n fun _=>none)):OR N D loc w u (.amap P k n (fun _=>none) none):=by
 obtain ⟨b,DD,rfl,h1,h2,_⟩:=h
 exact ⟨b,DD,fun _=>none,rfl,h1,h2,fun kl=>⟨fun x hx=>(by cases hx),fun _=>rfl⟩,trivial⟩
theorem zk.toA (s:ASt) (t e:Nat) (cs:List PV) (hlk:s.hp.lookup t=some (.row e 1 (cs.map fun x => [x]))):zk s { s with hp:=zF s.hp t (.arow e (cs.map .p)) }:=zk.obj s t _ _ hlk fun _ _ _ _ _ h=>h.toA
theorem zk.ofA (s:ASt) (t e:Nat) (cs:List PV) (hlk:s.hp.lookup t=some (.arow e (cs.map .p))):zk s { s with hp:=zF s.hp t (.row e 1 (cs.map fun x => [x])) }:=zk.obj s t _ _ hlk fun _ _ _ _ _ h=>h.ofA
theorem zk.toM (s:ASt) (t:Nat) (pin:Option Nat) (P:Program) (k n:Nat) (hlk:s.hp.lookup t=some (.map pin P k n fun _=>none)):zk s { s with hp:=zF s.hp t (.amap P k n (fun _=>none) none) }:=zk.obj s t _ _ hlk fun _ _ _ _ _ h=>h.toM
def mat (e n:Nat):Nat→List (List (List PV))→Hp
 | _,[] => []
 | b,r :: R=>(b,.row e n r) :: mat e n (b+1) R
theorem z4r (e n:Nat) : ∀ (R:List (List (List PV))) (b t:Nat),(mat e n b R).lookup t=if b≤t then (R[t-b]?).map (.row e n) else none
 | [],b,t=>by simp [mat]
 | r :: R,b,t=>by
  rw [mat]
  by_cases h:t=b
  ·subst h;rw [zi];simp
  ·rw [ze h,z4r e n R (b+1) t]
   by_cases h1:b≤t
   ·rw [if_pos (by omega),if_pos h1,show t-b=(t-(b+1))+1 by omega,List.getElem?_cons_succ]
   ·rw [if_neg (by omega),if_neg h1]
theorem z8F (e n b i:Nat) (R:List (List (List PV))):(mat e n b R).lookup (i+b)=(R[i]?).map (.row e n):=by
 rw [z4r,if_pos (by omega),Nat.add_sub_cancel]
theorem z7P (e n b t:Nat) (R:List (List (List PV))) (h:t<b):(mat e n b R).lookup t=none:=by
 rw [z4r,if_neg (by omega)]
theorem z5Y (e n b t:Nat) (R:List (List (List PV))) (h:b+R.length≤t):(mat e n b R).lookup t=none:=by
 rw [z4r]
 split
 ·rw [List.getElem?_eq_none (by omega)];rfl
 ·rfl
theorem z2f (e n:Nat) : ∀ (R:List (List (List PV))) (b:Nat),∀ p ∈ mat e n b R,b≤p.1∧p.1<b+R.length ∧ ∃ r ∈ R,p.2 = .row e n r
 | [],b,p,h=>by cases h
 | r :: R,b,p,h=>by
  rcases List.mem_cons.1 h with h|h
  ·subst h;exact ⟨Nat.le_refl _,by simp,r,by simp,rfl⟩
  ·obtain ⟨h1,h2,q,h3,h4⟩:=z2f e n R (b+1) p h
   exact ⟨by omega,by simp;omega,q,by simp [h3],h4⟩
theorem z6w (e n:Nat) (F:AO→AO) (hF : ∀ r,F (.row e n r) = .row e n r) : ∀ (R:List (List (List PV))) (b:Nat),(mat e n b R).map (fun p=>(p.1,F p.2))=mat e n b R
 | [],b=>rfl
 | r :: R,b=>by rw [mat,List.map_cons,hF,z6w e n F hF R (b+1)]
theorem z2M (e n:Nat) (q:Nat→Bool) : ∀ (R:List (List (List PV))) (b:Nat),(∀ t,b≤t→t<b+R.length→q t=true)→(mat e n b R).filter (fun p=>q p.1)=mat e n b R
 | [],b,_=>rfl
 | r :: R,b,h=>by rw [mat,List.filter_cons,if_pos (h b (Nat.le_refl _) (by simp)),z2M e n q R (b+1) fun t h1 h2=>h t (by omega) (by simp at h2 ⊢;omega)]
theorem mat_set (e n:Nat) (r:List (List PV)) : ∀ (R:List (List (List PV))) (b i:Nat),zF (mat e n b R) (i+b) (.row e n r)=mat e n b (R.set i r)
 | [],b,i=>by simp [mat,zF]
 | q :: R,b,0=>by
  simp only [mat,zF,List.map_cons,Nat.zero_add,if_true,List.set_cons_zero]
  congr 1
  have:=z2M e n (fun _=>true) R (b+1) (fun _ _ _=>rfl)
  clear this
  have hk:=z2f e n R (b+1)
  rw [List.map_congr_left (g:=id) fun p hp=>by rw [if_neg (by have:=(hk p hp).1;omega)];rfl]
  simp
 | q :: R,b,i+1=>by
  rw [mat,List.set_cons_succ,mat,show i+1+b=i+(b+1) by omega,← mat_set e n r R (b+1) i]
  simp only [zF,List.map_cons]
  rw [if_neg (by omega)]
theorem z6e (e n:Nat) (r:List (List PV)) : ∀ (R:List (List (List PV))) (b:Nat),mat e n b (R ++ [r])=mat e n b R ++ [(b+R.length,.row e n r)]
 | [],b=>rfl
 | q :: R,b=>by
  rw [List.cons_append,mat,z6e e n r R (b+1),mat,List.cons_append,show b+1+R.length=b+(q :: R).length by simp;omega]
theorem mat_setU (e n b i:Nat) (r:List (List PV)) (R:List (List (List PV))):List.map (fun p=>if p.1=i+b then (i+b,.row e n r) else p) (mat e n b R)=mat e n b (R.set i r):=mat_set e n r R b i
theorem z6n (e n b t:Nat) (y:AV) (R:List (List (List PV))):List.map (fun p=>(p.1,AO.sub t y p.2)) (mat e n b R)=mat e n b R:=z6w e n (AO.sub t y) (fun _=>rfl) R b
theorem mat_keep (e n b m:Nat) (ks:List Nat) (R:List (List (List PV))):List.map (fun p=>(p.1,AO.keep m ks p.2)) (mat e n b R)=mat e n b R:=z6w e n (AO.keep m ks) (fun _=>rfl) R b
theorem mat_ren (e n b t t' : Nat) (R:List (List (List PV))):List.map (fun p=>(p.1,AO.ren t t' p.2)) (mat e n b R)=mat e n b R:=z6w e n (AO.ren t t') (fun _=>rfl) R b
theorem mat_ne (e n b t:Nat) (R:List (List (List PV))) (h:t<b∨b+R.length≤t):List.filter (fun p=>p.1 != t) (mat e n b R)=mat e n b R :=
 z2M e n (fun k=>k != t) R b fun k h1 h2=>by simp;omega
theorem mat_ne2 (e n b t t' : Nat) (R:List (List (List PV))) (h:t<b∨b+R.length≤t) (h' : t' < b∨b+R.length≤t'):List.filter (fun p=>p.1 != t&&p.1 != t') (mat e n b R)=mat e n b R :=
 z2M e n (fun k=>k != t&&k != t') R b fun k h1 h2=>by simp;omega
end Go.Proofs.YtdlgoofjechocaaGreatDoor
namespace Go.Proofs.YtdlgoofjechocaaGreatDoor
open Go.RowKit Go.Sort
def qE (y z:Ev):Bool:=((z.kind==4)||(z.kind==5))&&(z.obj==y.obj)&&(z.off==y.off)
def z6f (l:List Ev) (y:Ev) (i j:Nat):Bool := !((l.take j).drop (i+1)).any (qE y)
theorem atomic_ok (l:List Ev) (i j:Nat) (y:Ev) (hy:l[j]? = some y) (hij:i<j) (hl:l.length≤1000000):zx Tryz.prog 45 [.p (.seq 9 (l.map evC)),.int i,.int j] (.bool (z6f l y i j)):=by
 have hjl:j<l.length:=(List.getElem?_eq_some_iff.1 hy).1
 refine zx.of Tryz.func45 rfl 55 rfl (by decide) (by simp [AV.okB]) ?_
 repeat' (first|refine T.zh fun K hK=>?_|apply T.block|(refine T.reg (by kernel_rfl) fun K' hK'=>?_;simp only [bz];(repeat' (first|(with_reducible refine WL.fin ?_;apply hK';clear hK' K')|((with_reducible refine WL.step fun K2 hK2=>?_);simp only [simprocAttr,az,zu (show i<1152921504606846976 by omega)];(repeat' with_reducible (first|(apply hK2;clear hK2 K2)|apply And.intro|intro hb))))))|apply T.skip|apply T.exit|refine T.zg rfl ?_|refine T.zf rfl ?_|refine T.cond rfl (fun hc=>?_) (fun hc=>?_)|apply T.ret|simp only [zb,za,reduceIte,Nat.reduceEqDiff]|((repeat ((fail_if_success apply hK);clear hK K));apply hK;clear hK K))
 refine T.qC (fun k:Nat=>⟨[(0,.p (.seq 9 (l.map evC))),(1,.int i),(2,.int j),(7,.int k)],[],55,0⟩) (fun k=>i+1≤k∧k≤j∧((l.take k).drop (i+1)).any (qE y)=false) (fun k=>j-k) (i+1) ⟨Nat.le_refl _,hij,by rw [List.drop_eq_nil_of_le (by simp;omega)];rfl⟩ (by refine zk.of' rfl ?_;simp only [wks,reduceIte,Nat.reduceEqDiff,ASt.okB,AV.okB,Nat.reduceLT,implies_true,Int.natCast_zero]) ?_
 rintro k ⟨hk0,hk,hn⟩ KL hKL
 by_cases hlt:k<j
 ·obtain ⟨z,hz⟩:=zQ (show k<l.length by omega)
  have hd:decide ((k:Int)<(j:Int))=true:=by simpa using hlt
  have hany:((l.take (k+1)).drop (i+1)).any (qE y)=qE y z:=by
   rw [z9g hz hk0,List.any_append,hn];simp
  have hbad:qE y z=true→z6f l y i j=false:=fun h=>by
   have hm:z ∈ (l.take j).drop (i+1):=by
    refine List.mem_iff_getElem?.2 ⟨k-(i+1),?_⟩
    rw [List.getElem?_drop,show i+1+(k-(i+1))=k by omega,List.getElem?_take,if_pos hlt,hz]
   unfold z6f
   rw [List.any_eq_true.2 ⟨z,hm,h⟩]
   rfl
  have hgo:qE y z=false → ∀ s',zk s' _→KL s':=fun h s' hw=>hKL s' (k+1) hw ⟨by omega,by omega,by rw [hany];exact h⟩ (by omega)
  cases h4:(z.kind==4) with
  | true =>
   cases ho:(z.obj==y.obj) with
   | true =>
    cases hf:(z.off==y.off) with
    | true =>
     have hw:qE y z=true:=by simp [qE,h4,ho,hf]
     repeat' (first|refine T.zh fun K hK=>?_|apply T.block|(refine T.reg (by kernel_rfl) fun K' hK'=>?_;simp only [bz];(with_reducible repeat' (first|(apply WL.fin;apply hK';clear hK' K')|(refine WL.step fun K2 hK2=>?_;simp only [simprocAttr,az,hy,hz,hd,evC];repeat' (first|(apply hK2;clear hK2 K2)|apply And.intro|intro hb)))))|apply T.skip|apply T.exit|refine T.zg rfl ?_|refine T.zf rfl ?_|refine T.cond rfl (fun hc=>?_) (fun hc=>?_)|apply T.ret|simp only [zb,za,reduceIte,Nat.reduceEqDiff]|((repeat ((fail_if_success apply hK);clear hK K));apply hK;clear hK K))
     refine T.comm [c0,c0,c0,c0,c0,c0,c0,c0,c0,c0,c0,c0,c0,c0,c0,c0,c0,c0,c0,c0,c0,c0,c0,c0,c0,c0,c0,c0,c0,c0,c0,c0,c0,c0,c0,c0,c0,c0,c0,c0] (by kernel_rfl) (by kernel_rfl) fun K' hK'=>?_;simp only [List.map_cons,List.map_nil,List.zip_cons_cons,List.zip_nil_left];(repeat' (first|(with_reducible refine WC.fin ?_;apply hK';clear hK' K')|((first|(with_reducible refine WC.z0Q fun K2 hK2=>?_)|(with_reducible refine WC.stepW fun K2 hK2=>?_));simp only [simprocAttr,implies_true,amz,WCg,WCv,WOw,allP,dav,Chk,List.filter_cons,List.filter_nil,bne_self_eq_false,Nat.reduceBneDiff,Bool.false_eq_true,tys,hy,hz,hd,evC,h4,ho,hf];(repeat' (first|(with_reducible refine hK2 _ _ ?_;clear hK2 K2)|with_reducible (first|(apply hK2;clear hK2 K2)|apply And.intro|intro hb)|(with_reducible rfl)|((with_reducible show @Eq ASt _ _);rfl) )))));all_goals ((try simp only [zb,za,reduceIte,Nat.reduceEqDiff]);(try ((repeat ((fail_if_success apply hK);clear hK K));apply hK;clear hK K)))
     all_goals repeat' (first|refine T.zh fun K hK=>?_|apply T.block|(refine T.reg (by kernel_rfl) fun K' hK'=>?_;simp only [bz];(with_reducible repeat' (first|(apply WL.fin;apply hK';clear hK' K')|(refine WL.step fun K2 hK2=>?_;simp only [simprocAttr,az,hy,hz,hd,evC];repeat' (first|(apply hK2;clear hK2 K2)|apply And.intro|intro hb)))))|apply T.skip|apply T.exit|refine T.zg rfl ?_|refine T.zf rfl ?_|refine T.cond rfl (fun hc=>?_) (fun hc=>?_)|apply T.ret|simp only [zb,za,reduceIte,Nat.reduceEqDiff]|((repeat ((fail_if_success apply hK);clear hK K));apply hK;clear hK K))
     all_goals (refine zH.ret (.inr rfl) Tryz.results45 ?_;simp only [zw,zt,zq,simprocAttr,az,];rw [hbad hw])
    | false =>
     have hw:qE y z=false:=by simp [qE,h4,ho,hf]
     repeat' (first|refine T.zh fun K hK=>?_|apply T.block|(refine T.reg (by kernel_rfl) fun K' hK'=>?_;simp only [bz];(with_reducible repeat' (first|(apply WL.fin;apply hK';clear hK' K')|(refine WL.step fun K2 hK2=>?_;simp only [simprocAttr,az,hy,hz,hd,evC];repeat' (first|(apply hK2;clear hK2 K2)|apply And.intro|intro hb)))))|apply T.skip|apply T.exit|refine T.zg rfl ?_|refine T.zf rfl ?_|refine T.cond rfl (fun hc=>?_) (fun hc=>?_)|apply T.ret|simp only [zb,za,reduceIte,Nat.reduceEqDiff]|((repeat ((fail_if_success apply hK);clear hK K));apply hK;clear hK K))
     refine T.comm [c0,c0,c0,c0,c0,c0,c0,c0,c0,c0,c0,c0,c0,c0,c0,c0,c0,c0,c0,c0,c0,c0,c0,c0,c0,c0,c0,c0,c0,c0,c0,c0,c0,c0,c0,c0,c0,c0,c0,c0] (by kernel_rfl) (by kernel_rfl) fun K' hK'=>?_;simp only [List.map_cons,List.map_nil,List.zip_cons_cons,List.zip_nil_left];(repeat' (first|(with_reducible refine WC.fin ?_;apply hK';clear hK' K')|((first|(with_reducible refine WC.z0Q fun K2 hK2=>?_)|(with_reducible refine WC.stepW fun K2 hK2=>?_));simp only [simprocAttr,implies_true,amz,WCg,WCv,WOw,allP,dav,Chk,List.filter_cons,List.filter_nil,bne_self_eq_false,Nat.reduceBneDiff,Bool.false_eq_true,tys,hy,hz,hd,evC,h4,ho,hf];(repeat' (first|(with_reducible refine hK2 _ _ ?_;clear hK2 K2)|with_reducible (first|(apply hK2;clear hK2 K2)|apply And.intro|intro hb)|(with_reducible rfl)|((with_reducible show @Eq ASt _ _);rfl) )))));all_goals ((try simp only [zb,za,reduceIte,Nat.reduceEqDiff]);(try ((repeat ((fail_if_success apply hK);clear hK K));apply hK;clear hK K)))
     all_goals repeat' (first|refine T.zh fun K hK=>?_|apply T.block|(refine T.reg (by kernel_rfl) fun K' hK'=>?_;simp only [bz];(with_reducible repeat' (first|(apply WL.fin;apply hK';clear hK' K')|(refine WL.step fun K2 hK2=>?_;simp only [simprocAttr,az,hy,hz,hd,evC];repeat' (first|(apply hK2;clear hK2 K2)|apply And.intro|intro hb)))))|apply T.skip|apply T.exit|refine T.zg rfl ?_|refine T.zf rfl ?_|refine T.cond rfl (fun hc=>?_) (fun hc=>?_)|apply T.ret|simp only [zb,za,reduceIte,Nat.reduceEqDiff]|((repeat ((fail_if_success apply hK);clear hK K));apply hK;clear hK K))
     all_goals (refine hgo hw _ ?_;refine zk.of' rfl ?_;simp only [wks,reduceIte,Nat.reduceEqDiff,ASt.okB,AV.okB,Nat.reduceLT,implies_true,zu (show k<1152921504606846976 by omega)])
   | false =>
    have hw:qE y z=false:=by simp [qE,h4,ho]
    repeat' (first|refine T.zh fun K hK=>?_|apply T.block|(refine T.reg (by kernel_rfl) fun K' hK'=>?_;simp only [bz];(with_reducible repeat' (first|(apply WL.fin;apply hK';clear hK' K')|(refine WL.step fun K2 hK2=>?_;simp only [simprocAttr,az,hy,hz,hd,evC];repeat' (first|(apply hK2;clear hK2 K2)|apply And.intro|intro hb)))))|apply T.skip|apply T.exit|refine T.zg rfl ?_|refine T.zf rfl ?_|refine T.cond rfl (fun hc=>?_) (fun hc=>?_)|apply T.ret|simp only [zb,za,reduceIte,Nat.reduceEqDiff]|((repeat ((fail_if_success apply hK);clear hK K));apply hK;clear hK K))
    refine T.comm [c0,c0,c0,c0,c0,c0,c0,c0,c0,c0,c0,c0,c0,c0,c0,c0,c0,c0,c0,c0,c0,c0,c0,c0,c0,c0,c0,c0,c0,c0,c0,c0,c0,c0,c0,c0,c0,c0,c0,c0] (by kernel_rfl) (by kernel_rfl) fun K' hK'=>?_;simp only [List.map_cons,List.map_nil,List.zip_cons_cons,List.zip_nil_left];(repeat' (first|(with_reducible refine WC.fin ?_;apply hK';clear hK' K')|((first|(with_reducible refine WC.z0Q fun K2 hK2=>?_)|(with_reducible refine WC.stepW fun K2 hK2=>?_));simp only [simprocAttr,implies_true,amz,WCg,WCv,WOw,allP,dav,Chk,List.filter_cons,List.filter_nil,bne_self_eq_false,Nat.reduceBneDiff,Bool.false_eq_true,tys,hy,hz,hd,evC,h4,ho];(repeat' (first|(with_reducible refine hK2 _ _ ?_;clear hK2 K2)|with_reducible (first|(apply hK2;clear hK2 K2)|apply And.intro|intro hb)|(with_reducible rfl)|((with_reducible show @Eq ASt _ _);rfl) )))));all_goals ((try simp only [zb,za,reduceIte,Nat.reduceEqDiff]);(try ((repeat ((fail_if_success apply hK);clear hK K));apply hK;clear hK K)))
    all_goals repeat' (first|refine T.zh fun K hK=>?_|apply T.block|(refine T.reg (by kernel_rfl) fun K' hK'=>?_;simp only [bz];(with_reducible repeat' (first|(apply WL.fin;apply hK';clear hK' K')|(refine WL.step fun K2 hK2=>?_;simp only [simprocAttr,az,hy,hz,hd,evC];repeat' (first|(apply hK2;clear hK2 K2)|apply And.intro|intro hb)))))|apply T.skip|apply T.exit|refine T.zg rfl ?_|refine T.zf rfl ?_|refine T.cond rfl (fun hc=>?_) (fun hc=>?_)|apply T.ret|simp only [zb,za,reduceIte,Nat.reduceEqDiff]|((repeat ((fail_if_success apply hK);clear hK K));apply hK;clear hK K))
    all_goals (refine hgo hw _ ?_;refine zk.of' rfl ?_;simp only [wks,reduceIte,Nat.reduceEqDiff,ASt.okB,AV.okB,Nat.reduceLT,implies_true,zu (show k<1152921504606846976 by omega)])
  | false =>
   cases h5:(z.kind==5) with
   | true =>
    cases ho:(z.obj==y.obj) with
    | true =>
     cases hf:(z.off==y.off) with
     | true =>
      have hw:qE y z=true:=by simp [qE,h5,ho,hf]
      repeat' (first|refine T.zh fun K hK=>?_|apply T.block|(refine T.reg (by kernel_rfl) fun K' hK'=>?_;simp only [bz];(with_reducible repeat' (first|(apply WL.fin;apply hK';clear hK' K')|(refine WL.step fun K2 hK2=>?_;simp only [simprocAttr,az,hy,hz,hd,evC];repeat' (first|(apply hK2;clear hK2 K2)|apply And.intro|intro hb)))))|apply T.skip|apply T.exit|refine T.zg rfl ?_|refine T.zf rfl ?_|refine T.cond rfl (fun hc=>?_) (fun hc=>?_)|apply T.ret|simp only [zb,za,reduceIte,Nat.reduceEqDiff]|((repeat ((fail_if_success apply hK);clear hK K));apply hK;clear hK K))
      refine T.comm [c0,c0,c0,c0,c0,c0,c0,c0,c0,c0,c0,c0,c0,c0,c0,c0,c0,c0,c0,c0,c0,c0,c0,c0,c0,c0,c0,c0,c0,c0,c0,c0,c0,c0,c0,c0,c0,c0,c0,c0] (by kernel_rfl) (by kernel_rfl) fun K' hK'=>?_;simp only [List.map_cons,List.map_nil,List.zip_cons_cons,List.zip_nil_left];(repeat' (first|(with_reducible refine WC.fin ?_;apply hK';clear hK' K')|((first|(with_reducible refine WC.z0Q fun K2 hK2=>?_)|(with_reducible refine WC.stepW fun K2 hK2=>?_));simp only [simprocAttr,implies_true,amz,WCg,WCv,WOw,allP,dav,Chk,List.filter_cons,List.filter_nil,bne_self_eq_false,Nat.reduceBneDiff,Bool.false_eq_true,tys,hy,hz,hd,evC,h4,h5,ho,hf];(repeat' (first|(with_reducible refine hK2 _ _ ?_;clear hK2 K2)|with_reducible (first|(apply hK2;clear hK2 K2)|apply And.intro|intro hb)|(with_reducible rfl)|((with_reducible show @Eq ASt _ _);rfl) )))));all_goals ((try simp only [zb,za,reduceIte,Nat.reduceEqDiff]);(try ((repeat ((fail_if_success apply hK);clear hK K));apply hK;clear hK K)))
      all_goals repeat' (first|refine T.zh fun K hK=>?_|apply T.block|(refine T.reg (by kernel_rfl) fun K' hK'=>?_;simp only [bz];(with_reducible repeat' (first|(apply WL.fin;apply hK';clear hK' K')|(refine WL.step fun K2 hK2=>?_;simp only [simprocAttr,az,hy,hz,hd,evC];repeat' (first|(apply hK2;clear hK2 K2)|apply And.intro|intro hb)))))|apply T.skip|apply T.exit|refine T.zg rfl ?_|refine T.zf rfl ?_|refine T.cond rfl (fun hc=>?_) (fun hc=>?_)|apply T.ret|simp only [zb,za,reduceIte,Nat.reduceEqDiff]|((repeat ((fail_if_success apply hK);clear hK K));apply hK;clear hK K))
      all_goals (refine zH.ret (.inr rfl) Tryz.results45 ?_;simp only [zw,zt,zq,simprocAttr,az,];rw [hbad hw])
     | false =>
      have hw:qE y z=false:=by simp [qE,h5,ho,hf]
      repeat' (first|refine T.zh fun K hK=>?_|apply T.block|(refine T.reg (by kernel_rfl) fun K' hK'=>?_;simp only [bz];(with_reducible repeat' (first|(apply WL.fin;apply hK';clear hK' K')|(refine WL.step fun K2 hK2=>?_;simp only [simprocAttr,az,hy,hz,hd,evC];repeat' (first|(apply hK2;clear hK2 K2)|apply And.intro|intro hb)))))|apply T.skip|apply T.exit|refine T.zg rfl ?_|refine T.zf rfl ?_|refine T.cond rfl (fun hc=>?_) (fun hc=>?_)|apply T.ret|simp only [zb,za,reduceIte,Nat.reduceEqDiff]|((repeat ((fail_if_success apply hK);clear hK K));apply hK;clear hK K))
      refine T.comm [c0,c0,c0,c0,c0,c0,c0,c0,c0,c0,c0,c0,c0,c0,c0,c0,c0,c0,c0,c0,c0,c0,c0,c0,c0,c0,c0,c0,c0,c0,c0,c0,c0,c0,c0,c0,c0,c0,c0,c0] (by kernel_rfl) (by kernel_rfl) fun K' hK'=>?_;simp only [List.map_cons,List.map_nil,List.zip_cons_cons,List.zip_nil_left];(repeat' (first|(with_reducible refine WC.fin ?_;apply hK';clear hK' K')|((first|(with_reducible refine WC.z0Q fun K2 hK2=>?_)|(with_reducible refine WC.stepW fun K2 hK2=>?_));simp only [simprocAttr,implies_true,amz,WCg,WCv,WOw,allP,dav,Chk,List.filter_cons,List.filter_nil,bne_self_eq_false,Nat.reduceBneDiff,Bool.false_eq_true,tys,hy,hz,hd,evC,h4,h5,ho,hf];(repeat' (first|(with_reducible refine hK2 _ _ ?_;clear hK2 K2)|with_reducible (first|(apply hK2;clear hK2 K2)|apply And.intro|intro hb)|(with_reducible rfl)|((with_reducible show @Eq ASt _ _);rfl) )))));all_goals ((try simp only [zb,za,reduceIte,Nat.reduceEqDiff]);(try ((repeat ((fail_if_success apply hK);clear hK K));apply hK;clear hK K)))
      all_goals repeat' (first|refine T.zh fun K hK=>?_|apply T.block|(refine T.reg (by kernel_rfl) fun K' hK'=>?_;simp only [bz];(with_reducible repeat' (first|(apply WL.fin;apply hK';clear hK' K')|(refine WL.step fun K2 hK2=>?_;simp only [simprocAttr,az,hy,hz,hd,evC];repeat' (first|(apply hK2;clear hK2 K2)|apply And.intro|intro hb)))))|apply T.skip|apply T.exit|refine T.zg rfl ?_|refine T.zf rfl ?_|refine T.cond rfl (fun hc=>?_) (fun hc=>?_)|apply T.ret|simp only [zb,za,reduceIte,Nat.reduceEqDiff]|((repeat ((fail_if_success apply hK);clear hK K));apply hK;clear hK K))
      all_goals (refine hgo hw _ ?_;refine zk.of' rfl ?_;simp only [wks,reduceIte,Nat.reduceEqDiff,ASt.okB,AV.okB,Nat.reduceLT,implies_true,zu (show k<1152921504606846976 by omega)])
    | false =>
     have hw:qE y z=false:=by simp [qE,h5,ho]
     repeat' (first|refine T.zh fun K hK=>?_|apply T.block|(refine T.reg (by kernel_rfl) fun K' hK'=>?_;simp only [bz];(with_reducible repeat' (first|(apply WL.fin;apply hK';clear hK' K')|(refine WL.step fun K2 hK2=>?_;simp only [simprocAttr,az,hy,hz,hd,evC];repeat' (first|(apply hK2;clear hK2 K2)|apply And.intro|intro hb)))))|apply T.skip|apply T.exit|refine T.zg rfl ?_|refine T.zf rfl ?_|refine T.cond rfl (fun hc=>?_) (fun hc=>?_)|apply T.ret|simp only [zb,za,reduceIte,Nat.reduceEqDiff]|((repeat ((fail_if_success apply hK);clear hK K));apply hK;clear hK K))
     refine T.comm [c0,c0,c0,c0,c0,c0,c0,c0,c0,c0,c0,c0,c0,c0,c0,c0,c0,c0,c0,c0,c0,c0,c0,c0,c0,c0,c0,c0,c0,c0,c0,c0,c0,c0,c0,c0,c0,c0,c0,c0] (by kernel_rfl) (by kernel_rfl) fun K' hK'=>?_;simp only [List.map_cons,List.map_nil,List.zip_cons_cons,List.zip_nil_left];(repeat' (first|(with_reducible refine WC.fin ?_;apply hK';clear hK' K')|((first|(with_reducible refine WC.z0Q fun K2 hK2=>?_)|(with_reducible refine WC.stepW fun K2 hK2=>?_));simp only [simprocAttr,implies_true,amz,WCg,WCv,WOw,allP,dav,Chk,List.filter_cons,List.filter_nil,bne_self_eq_false,Nat.reduceBneDiff,Bool.false_eq_true,tys,hy,hz,hd,evC,h4,h5,ho];(repeat' (first|(with_reducible refine hK2 _ _ ?_;clear hK2 K2)|with_reducible (first|(apply hK2;clear hK2 K2)|apply And.intro|intro hb)|(with_reducible rfl)|((with_reducible show @Eq ASt _ _);rfl) )))));all_goals ((try simp only [zb,za,reduceIte,Nat.reduceEqDiff]);(try ((repeat ((fail_if_success apply hK);clear hK K));apply hK;clear hK K)))
     all_goals repeat' (first|refine T.zh fun K hK=>?_|apply T.block|(refine T.reg (by kernel_rfl) fun K' hK'=>?_;simp only [bz];(with_reducible repeat' (first|(apply WL.fin;apply hK';clear hK' K')|(refine WL.step fun K2 hK2=>?_;simp only [simprocAttr,az,hy,hz,hd,evC];repeat' (first|(apply hK2;clear hK2 K2)|apply And.intro|intro hb)))))|apply T.skip|apply T.exit|refine T.zg rfl ?_|refine T.zf rfl ?_|refine T.cond rfl (fun hc=>?_) (fun hc=>?_)|apply T.ret|simp only [zb,za,reduceIte,Nat.reduceEqDiff]|((repeat ((fail_if_success apply hK);clear hK K));apply hK;clear hK K))
     all_goals (refine hgo hw _ ?_;refine zk.of' rfl ?_;simp only [wks,reduceIte,Nat.reduceEqDiff,ASt.okB,AV.okB,Nat.reduceLT,implies_true,zu (show k<1152921504606846976 by omega)])
   | false =>
    have hw:qE y z=false:=by simp [qE,h4,h5]
    repeat' (first|refine T.zh fun K hK=>?_|apply T.block|(refine T.reg (by kernel_rfl) fun K' hK'=>?_;simp only [bz];(with_reducible repeat' (first|(apply WL.fin;apply hK';clear hK' K')|(refine WL.step fun K2 hK2=>?_;simp only [simprocAttr,az,hy,hz,hd,evC];repeat' (first|(apply hK2;clear hK2 K2)|apply And.intro|intro hb)))))|apply T.skip|apply T.exit|refine T.zg rfl ?_|refine T.zf rfl ?_|refine T.cond rfl (fun hc=>?_) (fun hc=>?_)|apply T.ret|simp only [zb,za,reduceIte,Nat.reduceEqDiff]|((repeat ((fail_if_success apply hK);clear hK K));apply hK;clear hK K))
    refine T.comm [c0,c0,c0,c0,c0,c0,c0,c0,c0,c0,c0,c0,c0,c0,c0,c0,c0,c0,c0,c0,c0,c0,c0,c0,c0,c0,c0,c0,c0,c0,c0,c0,c0,c0,c0,c0,c0,c0,c0,c0] (by kernel_rfl) (by kernel_rfl) fun K' hK'=>?_;simp only [List.map_cons,List.map_nil,List.zip_cons_cons,List.zip_nil_left];(repeat' (first|(with_reducible refine WC.fin ?_;apply hK';clear hK' K')|((first|(with_reducible refine WC.z0Q fun K2 hK2=>?_)|(with_reducible refine WC.stepW fun K2 hK2=>?_));simp only [simprocAttr,implies_true,amz,WCg,WCv,WOw,allP,dav,Chk,List.filter_cons,List.filter_nil,bne_self_eq_false,Nat.reduceBneDiff,Bool.false_eq_true,tys,hy,hz,hd,evC,h4,h5];(repeat' (first|(with_reducible refine hK2 _ _ ?_;clear hK2 K2)|with_reducible (first|(apply hK2;clear hK2 K2)|apply And.intro|intro hb)|(with_reducible rfl)|((with_reducible show @Eq ASt _ _);rfl) )))));all_goals ((try simp only [zb,za,reduceIte,Nat.reduceEqDiff]);(try ((repeat ((fail_if_success apply hK);clear hK K));apply hK;clear hK K)))
    all_goals repeat' (first|refine T.zh fun K hK=>?_|apply T.block|(refine T.reg (by kernel_rfl) fun K' hK'=>?_;simp only [bz];(with_reducible repeat' (first|(apply WL.fin;apply hK';clear hK' K')|(refine WL.step fun K2 hK2=>?_;simp only [simprocAttr,az,hy,hz,hd,evC];repeat' (first|(apply hK2;clear hK2 K2)|apply And.intro|intro hb)))))|apply T.skip|apply T.exit|refine T.zg rfl ?_|refine T.zf rfl ?_|refine T.cond rfl (fun hc=>?_) (fun hc=>?_)|apply T.ret|simp only [zb,za,reduceIte,Nat.reduceEqDiff]|((repeat ((fail_if_success apply hK);clear hK K));apply hK;clear hK K))
    all_goals (refine hgo hw _ ?_;refine zk.of' rfl ?_;simp only [wks,reduceIte,Nat.reduceEqDiff,ASt.okB,AV.okB,Nat.reduceLT,implies_true,zu (show k<1152921504606846976 by omega)])
 ·have hd:decide ((k:Int)<(j:Int))=false:=by simpa using hlt
  obtain rfl:k=j:=by omega
  repeat' (first|refine T.zh fun K hK=>?_|apply T.block|(refine T.reg (by kernel_rfl) fun K' hK'=>?_;simp only [bz];(with_reducible repeat' (first|(apply WL.fin;apply hK';clear hK' K')|(refine WL.step fun K2 hK2=>?_;simp only [simprocAttr,az,hd];repeat' (first|(apply hK2;clear hK2 K2)|apply And.intro|intro hb)))))|apply T.skip|apply T.exit|refine T.zg rfl ?_|refine T.zf rfl ?_|refine T.cond rfl (fun hc=>?_) (fun hc=>?_)|apply T.ret|simp only [zb,za,reduceIte,Nat.reduceEqDiff]|((repeat ((fail_if_success apply hK);clear hK K));apply hK;clear hK K))
  refine zH.ret (.inr rfl) Tryz.results45 ?_;simp only [zw,zt,zq,simprocAttr,az,]
  simp [z6f,hn]
end Go.Proofs.YtdlgoofjechocaaGreatDoor
