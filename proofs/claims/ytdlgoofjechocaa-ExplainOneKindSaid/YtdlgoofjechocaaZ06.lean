/- Texts Pa, Pb, Pc, Pd, Qc, Pf, Sm, Ay, Po, Pp, Az, Pq, Ps, Pe, Pg, Pm, Pr, Pt. -/
import Derived.Maps.OwnSet
import Derived.DeepKeys4
import Derived.Test.YtdlgoofjechocaaZ05
set_option maxHeartbeats 32000000
set_option maxRecDepth 100000
set_option linter.unusedSimpArgs false
set_option linter.unusedVariables false
namespace Go.Proofs.Ytdlgoofjechocaa
open Go.RowKit Go.Sort
structure Ch where
 cap:Int
 sent:Int
 recv:Int
 closed:Bool
structure Mu where
 locked:Bool
 readers:Int
structure Gp where
 kinds:List Int
 obj:Int
 k:Int
 n:Int
 snd:Int
 rcv:Int
structure Ps where
 ev:Int
 gor:Int
 ch:Int→Option Ch
 mu:Int→Int→Option Mu
 dn:Int→Int→Bool
 op:Gp
def ch0:Ch:=⟨0,0,0,false⟩
def mu0:Mu:=⟨false,0⟩
def gp0:Gp:=⟨[],0,0,0,0,0⟩
def ps0:Ps:=⟨0,1,fun _=>none,fun _ _=>none,fun _ _=>false,gp0⟩
def z0E (s:Ps) (o:Int) (c:Ch):Ps := { s with ch:=fun x=>if x=o then some c else s.ch x }
def setMu (s:Ps) (o f:Int) (m:Mu):Ps := { s with mu:=fun x y=>if x=o∧y=f then some m else s.mu x y }
def zaT (s:Ps) (o f:Int):Ps := { s with dn:=fun x y=>decide (x=o∧y=f)||s.dn x y }
def z1n (s:Ps) (g:Gp):Ps := { s with op:=g }
abbrev wI (x:Int):Int:=IntKind.i64.wrap x
def z0t (c:Ch) (kind:Int):Ch:=if kind==15 then { c with sent:=wI (c.sent+1) } else if kind==17 then { c with recv:=wI (c.recv+1) } else c
def countP (s:Ps) (e:Ev):Ps:=z0E s e.obj (z0t ((s.ch e.obj).getD ch0) e.kind)
def z0j (kind:Int):Bool:=kind==15||kind==16
def ownP (s r:Int) (kind:Int):Int:=if z0j kind=true then s else r
def othP (s r:Int) (kind:Int):Int:=if z0j kind=true then r else s
def badP (own oth g:Int):Bool:=(decide (own<0)&&g==oth)||(decide (0≤own)&&g != own)
def fitP (o:Gp) (kd:Int) (e:Ev):Bool := !(e.kind != kd||e.obj != o.obj||e.k != o.k||e.n != o.n)
def z1w (o:Gp) (e:Ev) (r:List Int):Gp:=if z0j e.kind=true then { o with kinds:=r,snd:=e.g } else { o with kinds:=r,rcv:=e.g }
def z4a (s:Ps) (kd:Int) (r:List Int) (e:Ev):Option Ps :=
 if fitP s.op kd e=true∧badP (ownP s.op.snd s.op.rcv e.kind) (othP s.op.snd s.op.rcv e.kind) e.g=false then some (countP (z1n s (z1w s.op e r)) e) else none
def z3p (s:Ps) (e:Ev) (c:Ch) (kinds:List Int) (snd rcv:Int):Ps:=countP (z1n (z0E s e.obj c) ⟨kinds,e.obj,e.k,e.n,snd,rcv⟩) e
def qV (s:Ps) (e:Ev):Ch:=(s.ch e.obj).getD { ch0 with cap:=e.n }
def z0K (s:Ps) (e:Ev):Option Ps :=
 if (qV s e).cap != e.n then none
 else if e.kind==19 then (if (qV s e).closed=true then none else some (z0E s e.obj { qV s e with closed:=true }))
 else if e.kind==20 then (if ((qV s e).closed&&(qV s e).sent==(qV s e).recv)=true then some s else none)
 else if e.kind==15 then
  (if ((qV s e).closed||e.k != (qV s e).sent)=true then none
  else if wI ((qV s e).sent-(qV s e).recv)<(qV s e).cap then some (z3p s e (qV s e) [16] e.g (-1))
  else if ((qV s e).cap==0 && !(s.gor==1))=true then some (z3p s e (qV s e) [17,18,16] e.g (-1))
  else none)
 else if e.kind==17 then
  (if (e.k != (qV s e).recv)=true then none
  else if (qV s e).recv<(qV s e).sent then some (z3p s e (qV s e) [18] (-1) e.g)
  else if (!(qV s e).closed && !(s.gor==1))=true then some (z3p s e (qV s e) [15,18,16] (-1) e.g)
  else none)
 else none
def muP (s:Ps) (e:Ev):Mu:=(s.mu e.obj e.off).getD mu0
def z0L (s:Ps) (e:Ev):Option Ps :=
 if e.kind==6 then (if ((muP s e).locked||decide (0<(muP s e).readers))=true then none else some (setMu s e.obj e.off { muP s e with locked:=true }))
 else if e.kind==7 then (if (muP s e).locked=true then some (setMu s e.obj e.off { muP s e with locked:=false }) else none)
 else if e.kind==8 then (if (muP s e).locked=true then none else some (setMu s e.obj e.off { muP s e with readers:=wI ((muP s e).readers+1) }))
 else if e.kind==9 then (if ((muP s e).readers==0)=true then none else some (setMu s e.obj e.off { muP s e with readers:=wI ((muP s e).readers-1) }))
 else if e.kind==12 then (if s.dn e.obj e.off=true then none else some (zaT s e.obj e.off))
 else if e.kind==13 then (if s.dn e.obj e.off=true then some s else none)
 else if e.kind==14 then (if (e.k != s.gor)=true then none else some { s with gor:=wI (s.gor+1) })
 else some s
def z1a (s:Ps) (e:Ev):Option Ps:=match s.op.kinds with
 | kd :: r=>z4a s kd r e
 | []=>if zV e.kind=true then z0K s e else z0L s e
def z5G (s:Ps) (e:Ev):Bool := !qh e||decide (5000≤s.ev)||decide (s.gor≤e.g)
def addP (s:Ps) (e:Ev):Option Ps:=if z5G s e=true then none else (z1a s e).map fun t => { t with ev:=wI (t.ev+1) }
def goP (s:Ps):List Ev→Bool
 | []=>true
 | e :: r=>match addP s e with
  | some t=>goP t r
  | none=>false
def toCn (o:Int) (c:Ch):Cn:=⟨o,c.cap,c.sent,c.recv,c.closed⟩
def toLk (o f:Int) (m:Mu):Lk:=⟨o,f,m.locked,m.readers⟩
structure Gk (g:Gp) (r:Rs):Prop where
 kinds:g.kinds=r.next.map (·.kind)
 at' : r.next ≠ []→g.obj=r.obj∧g.k=r.k∧g.n=r.n
 own : ∀ w ∈ r.next,w.g=ownP g.snd g.rcv w.kind
 head : ∀ w l,r.next=w :: l→w.g<0→w.not=othP g.snd g.rcv w.kind ∧ 0≤othP g.snd g.rcv w.kind
 rest : ∀ w l,r.next=w :: l → 0≤w.g → ∀ x ∈ l,0≤x.g
 tail : ∀ x ∈ g.kinds.tail,x ≠ 15∧x ≠ 17
structure ChOk (g:Gp) (m:Int) (o:Int) (c:Ch):Prop where
 s0 : 0≤c.sent
 s1:c.sent≤m
 r0 : 0≤c.recv
 r1:c.recv≤m
 le:g.kinds.head? ≠ some 15∨o ≠ g.obj→c.recv≤c.sent
 le1:c.recv≤c.sent+1
 lt:g.kinds.head? = some 17∧o=g.obj→c.recv+1≤c.sent
structure Inv (s:Ps) (r:Rs) (m:Int):Prop where
 ev:s.ev=r.count
 gor:s.gor=r.gor
 ch : ∀ o n,qo o n r.chans=toCn o ((s.ch o).getD ⟨n,0,0,false⟩)
 mu : ∀ o f,zO o f r.locks=toLk o f ((s.mu o f).getD mu0)
 dn : ∀ o f,z3M r o f=s.dn o f
 op:Gk s.op r
 gr0 : 1≤s.gor∧s.gor≤m+1
 chb : ∀ o c,s.ch o=some c→ChOk s.op m o c
 mub : ∀ o f u,s.mu o f=some u → 0≤u.readers∧u.readers≤m
 has:s.op.kinds ≠ [] → ∃ c,s.ch s.op.obj=some c
theorem inv0:Inv ps0 rs0 0:=⟨rfl,rfl,fun _ _=>rfl,fun _ _=>rfl,fun _ _=>rfl,⟨rfl,fun h=>absurd rfl h,fun w h=>(by cases h),fun w l h=>(by cases h),fun w l h=>(by cases h),fun x h=>(by cases h)⟩,⟨by decide,by decide⟩,fun _ _ h=>(by cases h),fun _ _ _ h=>(by cases h),fun h=>absurd rfl h⟩
theorem ChOk.up {g:Gp} {m o:Int} {c:Ch} (h:ChOk g m o c):ChOk g (m+1) o c:=⟨h.s0,by have:=h.s1;omega,h.r0,by have:=h.r1;omega,h.le,h.le1,h.lt⟩
theorem Inv.up {s:Ps} {r:Rs} {m:Int} (h:Inv s r m):Inv s r (m+1):=⟨h.ev,h.gor,h.ch,h.mu,h.dn,h.op,⟨h.gr0.1,by have:=h.gr0.2;omega⟩,fun o c hc=>(h.chb o c hc).up,fun o f u hu=>⟨(h.mub o f u hu).1,by have:=(h.mub o f u hu).2;omega⟩,h.has⟩
theorem Inv.cnt {s:Ps} {r:Rs} {m:Int} (h:Inv s r m):Inv { s with ev:=wI (s.ev+1) } (cnt1 r) m:=⟨by simp [cnt1,h.ev],h.gor,h.ch,h.mu,h.dn,⟨h.op.kinds,h.op.at',h.op.own,h.op.head,h.op.rest,h.op.tail⟩,h.gr0,h.chb,h.mub,h.has⟩
theorem z8X (s:Rs) (c:Cn) (o n:Int):qo o n (setC s c).chans=if c.obj=o then c else qo o n s.chans:=by
 unfold setC
 simp only
 by_cases e:c.obj=o
 ·rw [if_pos e]
  have : ∀ l:List Cn,qo o n (l.filter (fun x=>x.obj != c.obj) ++ [c])=c:=by
   intro l
   induction l with
   | nil=>simp [qo,e]
   | cons x r ih =>
    by_cases hx:x.obj=c.obj
    ·rw [List.filter_cons_of_neg (by simp [hx])];exact ih
    ·rw [List.filter_cons_of_pos (by simp [hx]),List.cons_append,qo,if_neg (by simp;exact fun h=>hx (h.trans e.symm))];exact ih
  exact this _
 ·rw [if_neg e]
  have : ∀ l:List Cn,qo o n (l.filter (fun x=>x.obj != c.obj) ++ [c])=qo o n l:=by
   intro l
   induction l with
   | nil=>simp [qo,e]
   | cons x r ih =>
    by_cases hx:x.obj=c.obj
    ·rw [List.filter_cons_of_neg (by simp [hx]),ih,qo,if_neg (by simp;exact fun h=>e (hx.symm.trans h))]
    ·rw [List.filter_cons_of_pos (by simp [hx]),List.cons_append,qo,qo,ih]
  exact this _
theorem lockB_set (s:Rs) (c:Lk) (o f:Int):zO o f (setL s c).locks=if c.obj=o∧c.off=f then c else zO o f s.locks:=by
 unfold setL
 simp only
 by_cases e:c.obj=o∧c.off=f
 ·rw [if_pos e]
  obtain ⟨e1,e2⟩:=e
  have : ∀ l:List Lk,zO o f (l.filter (z0k c) ++ [c])=c:=by
   intro l
   induction l with
   | nil=>simp [zO,e1,e2]
   | cons x r ih =>
    by_cases hx:z0k c x=true
    ·rw [List.filter_cons_of_pos hx,List.cons_append,zO,if_neg ?_]
     ·exact ih
     ·intro h
      simp only [Bool.and_eq_true,beq_iff_eq] at h
      simp [z0k,h.1,h.2,e1,e2] at hx
    ·rw [List.filter_cons_of_neg hx];exact ih
  exact this _
 ·rw [if_neg e]
  have : ∀ l:List Lk,zO o f (l.filter (z0k c) ++ [c])=zO o f l:=by
   intro l
   induction l with
   | nil =>
    have:(c.obj==o&&c.off==f)=false:=by simpa using e
    simp [zO,this]
   | cons x r ih =>
    by_cases hx:z0k c x=true
    ·rw [List.filter_cons_of_pos hx,List.cons_append,zO,zO,ih]
    ·rw [List.filter_cons_of_neg hx,ih,zO,if_neg ?_]
     intro h
     simp only [Bool.and_eq_true,beq_iff_eq] at h
     simp only [z0k,Bool.or_eq_true,bne_iff_ne,ne_eq,not_or,Decidable.not_not] at hx
     exact e ⟨hx.1.symm.trans h.1,hx.2.symm.trans h.2⟩
  exact this _
theorem z6U {x:Int} (h0 : -10000≤x) (h1:x≤10000):wI x=x:=z5c (by omega) (by omega)
theorem zao (s:Ps) (o f:Int) (u:Mu) (o' f' : Int):(setMu s o f u).mu o' f' = if o' = o∧f' = f then some u else s.mu o' f':=rfl
theorem z4H (s:Ps) (o:Int) (c:Ch) (o' : Int):(z0E s o c).ch o' = if o' = o then some c else s.ch o':=rfl
theorem Inv.muTo {s:Ps} {r:Rs} {m:Int} (h:Inv s r m) (o f:Int) (u:Mu) (h0 : 0≤u.readers) (h1:u.readers≤m):Inv (setMu s o f u) (setL r (toLk o f u)) m:=by
 refine ⟨h.ev,h.gor,h.ch,fun o' f'=>?_,h.dn,⟨h.op.kinds,h.op.at',h.op.own,h.op.head,h.op.rest,h.op.tail⟩,h.gr0,h.chb,fun o' f' u' hu=>?_,h.has⟩
 ·rw [lockB_set,zao]
  by_cases e:o' = o∧f' = f
  ·rw [if_pos e,if_pos (show (toLk o f u).obj=o' ∧ (toLk o f u).off=f' from ⟨e.1.symm,e.2.symm⟩),e.1,e.2];rfl
  ·rw [if_neg e,if_neg (fun h:(toLk o f u).obj=o' ∧ (toLk o f u).off=f'=>e ⟨h.1.symm,h.2.symm⟩)];exact h.mu o' f'
 ·rw [zao] at hu
  split at hu
  ·cases hu;exact ⟨h0,h1⟩
  ·exact h.mub o' f' u' hu
theorem Inv.chTo {s:Ps} {r:Rs} {m:Int} (h:Inv s r m) (o:Int) (c:Ch) (hc:ChOk s.op m o c):Inv (z0E s o c) (setC r (toCn o c)) m:=by
 refine ⟨h.ev,h.gor,fun o' n=>?_,h.mu,h.dn,⟨h.op.kinds,h.op.at',h.op.own,h.op.head,h.op.rest,h.op.tail⟩,h.gr0,fun o' c' hc'=>?_,h.mub,fun hk=>?_⟩
 ·rw [z8X,z4H]
  by_cases e:o' = o
  ·rw [if_pos e,if_pos (show (toCn o c).obj=o' from e.symm),e];rfl
  ·rw [if_neg e,if_neg (fun h:(toCn o c).obj=o'=>e h.symm)];exact h.ch o' n
 ·rw [z4H] at hc'
  split at hc'
  ·rename_i e;cases hc';rw [e];exact hc
  ·exact h.chb o' c' hc'
 ·rw [z4H]
  show ∃ c',(if s.op.obj=o then some c else s.ch s.op.obj)=some c'
  split
  ·exact ⟨_,rfl⟩
  ·exact h.has hk
theorem Inv.sameCh {s:Ps} {r:Rs} {m:Int} (h:Inv s r m) (o:Int) (c:Ch) (hc:s.ch o=some c):Inv (Go.Proofs.Ytdlgoofjechocaa.z0E s o c) r m:=by
 have e:Go.Proofs.Ytdlgoofjechocaa.z0E s o c=s:=by
  have:(fun x=>if x=o then some c else s.ch x)=s.ch:=by funext x;split;(rename_i e;rw [e,hc]);rfl
  simp only [Go.Proofs.Ytdlgoofjechocaa.z0E,this]
 rw [e];exact h
theorem Inv.countP {s:Ps} {r:Rs} {m:Int} (h:Inv s r m) (e:Ev) (c:Ch) (hc:s.ch e.obj=some c) (hm:m≤5000) (h15:e.kind=15→c.sent+1≤m→ChOk s.op m e.obj { c with sent:=c.sent+1 }) (h17:e.kind=17→c.recv+1≤m→ChOk s.op m e.obj { c with recv:=c.recv+1 })
  (hb:(e.kind=15→c.sent+1≤m)∧(e.kind=17→c.recv+1≤m)):Inv (countP s e) (qO r e) m:=by
 have hok:=h.chb _ _ hc
 have hcb:=h.ch e.obj e.n
 rw [hc,Option.getD_some] at hcb
 unfold Go.Proofs.Ytdlgoofjechocaa.countP qO z0t
 rw [hc,Option.getD_some,hcb]
 by_cases k15:e.kind=15
 ·have hs:=hok.s0
  have:=hb.1 k15
  rw [if_pos (by simp [k15]),if_pos (by simp [k15]),z6U (by omega) (by omega)]
  have:=h.chTo e.obj { c with sent:=c.sent+1 } (h15 k15 (hb.1 k15))
  have e2:z7t (toCn e.obj c)=toCn e.obj { c with sent:=c.sent+1 }:=by simp [z7t,toCn,z5c (show -9223372036854775808≤c.sent+1 by omega) (by omega)]
  rw [e2];exact this
 ·by_cases k17:e.kind=17
  ·have hs:=hok.r0
   have:=hb.2 k17
   rw [if_neg (by simp [k15]),if_pos (by simp [k17]),if_neg (by simp [k15]),if_pos (by simp [k17]),z6U (by omega) (by omega)]
   have:=h.chTo e.obj { c with recv:=c.recv+1 } (h17 k17 (hb.2 k17))
   have e2:z7o (toCn e.obj c)=toCn e.obj { c with recv:=c.recv+1 }:=by simp [z7o,toCn,z5c (show -9223372036854775808≤c.recv+1 by omega) (by omega)]
   rw [e2];exact this
  ·rw [if_neg (by simp [k15]),if_neg (by simp [k17]),if_neg (by simp [k15]),if_neg (by simp [k17])]
   exact h.sameCh _ _ hc
theorem chan_at {s:Ps} {r:Rs} {m:Int} (h:Inv s r m) (e:Ev):qo e.obj e.n r.chans=toCn e.obj (qV s e):=h.ch e.obj e.n
theorem noAdd_eq {s:Ps} {r:Rs} {m:Int} (h:Inv s r m) (e:Ev):z5G s e=z2E r e:=by simp [z5G,z2E,h.ev,h.gor]
theorem validB_g {e:Ev} (h:qh e=true) : 0≤e.g∧e.g<8:=by
 simp only [qh,z19,Bool.and_eq_true,Bool.not_eq_true',Bool.or_eq_false_iff,decide_eq_false_iff_not] at h
 omega
theorem validB_n {e:Ev} (h:qh e=true) : 0≤e.n:=by
 simp only [qh,Bool.and_eq_true] at h
 have:=List.all_eq_true.1 h.2.1 e.n (by simp [qU])
 simp [okF] at this;omega
theorem sim_simp {s:Ps} {r:Rs} {m:Int} (h:Inv s r m) (e:Ev) (hm:m≤5000) (hk:s.op.kinds = []):(z0L s e).isSome=(zX r e).2 ∧ ∀ t,z0L s e=some t→Inv t (zX r e).1 (m+1)∧t.ev=s.ev:=by
 have hmu:=h.mu e.obj e.off
 have hmb : 0≤(muP s e).readers∧(muP s e).readers≤m:=by
  unfold muP
  cases hu:s.mu e.obj e.off with
  | none =>
   have:=h.gr0
   exact ⟨by simp [mu0],by simp [mu0];omega⟩
  | some u=>exact h.mub _ _ u hu
 have hml:zO e.obj e.off r.locks=toLk e.obj e.off (muP s e):=hmu
 have hdn:=h.dn e.obj e.off
 have hup:=h.up
 obtain ⟨hr0,hr1⟩:=hmb
 unfold z0L zX
 rw [hml,hdn]
 obtain ⟨u,hu⟩ : ∃ u,u=muP s e:=⟨_,rfl⟩
 rw [← hu] at hr0 hr1 hml ⊢
 by_cases k6:e.kind=6
 ·simp only [k6,beq_self_eq_true,if_true]
  refine ⟨?_,fun t ht=>?_⟩
  ·by_cases hc:(u.locked||decide (0<u.readers))=true
   ·rw [if_pos hc]
    simp only [Bool.or_eq_true,decide_eq_true_eq] at hc
    simp only [toLk,Option.isSome_none]
    rcases hc with hc|hc
    ·simp [hc]
    ·have:(u.readers==0)=false:=by simp;omega
     simp [this]
   ·rw [if_neg hc]
    simp only [Bool.or_eq_true,decide_eq_true_eq,not_or,Bool.not_eq_true] at hc
    have:u.readers=0:=by omega
    simp [toLk,hc.1,this]
  ·split at ht
   ·cases ht
   ·cases ht;exact ⟨hup.muTo e.obj e.off { u with locked:=true } hr0 (by simp only;omega),rfl⟩
 ·by_cases k7:e.kind=7
  ·simp only [k7,beq_self_eq_true,if_true,show ((7:Int)==6)=false from rfl,Bool.false_eq_true,if_false]
   refine ⟨?_,fun t ht=>?_⟩
   ·cases hl:u.locked <;> simp [toLk,hl]
   ·split at ht
    ·cases ht;exact ⟨hup.muTo e.obj e.off { u with locked:=false } hr0 (by simp only;omega),rfl⟩
    ·cases ht
  ·by_cases k8:e.kind=8
   ·simp only [k8,beq_self_eq_true,if_true,show ((8:Int)==6)=false from rfl,show ((8:Int)==7)=false from rfl,Bool.false_eq_true,if_false]
    have hw:wI (u.readers+1)=u.readers+1:=z6U (by omega) (by omega)
    refine ⟨?_,fun t ht=>?_⟩
    ·cases hl:u.locked <;> simp [toLk,hl]
    ·split at ht
     ·cases ht
     ·cases ht
      have:=hup.muTo e.obj e.off { u with readers:=wI (u.readers+1) } (by simp only [hw];omega) (by simp only [hw];omega)
      exact ⟨this,rfl⟩
   ·by_cases k9:e.kind=9
    ·simp only [k9,beq_self_eq_true,if_true,show ((9:Int)==6)=false from rfl,show ((9:Int)==7)=false from rfl,show ((9:Int)==8)=false from rfl,Bool.false_eq_true,if_false]
     have hw:wI (u.readers-1)=u.readers-1:=z6U (by omega) (by omega)
     refine ⟨?_,fun t ht=>?_⟩
     ·by_cases h0:u.readers=0
      ·have : ¬ (0≤u.readers-1):=by omega
       simp [toLk,hw,h0]
       decide
      ·have h2 : 0≤u.readers-1:=by omega
       simp [toLk,hw,h0,h2];omega
     ·split at ht
      ·cases ht
      ·rename_i hne
       have hne' : u.readers ≠ 0:=by simpa using hne
       cases ht
       have:=hup.muTo e.obj e.off { u with readers:=wI (u.readers-1) } (by simp only [hw];omega) (by simp only [hw];omega)
       exact ⟨this,rfl⟩
    ·by_cases k12:e.kind=12
     ·simp only [k12,beq_self_eq_true,if_true,show ((12:Int)==6)=false from rfl,show ((12:Int)==7)=false from rfl,show ((12:Int)==8)=false from rfl,show ((12:Int)==9)=false from rfl,Bool.false_eq_true,if_false]
      refine ⟨by cases s.dn e.obj e.off <;> rfl,fun t ht=>?_⟩
      split at ht
      ·cases ht
      ·cases ht
       refine ⟨⟨hup.ev,hup.gor,hup.ch,hup.mu,fun o f=>?_,⟨hup.op.kinds,hup.op.at',hup.op.own,hup.op.head,hup.op.rest,hup.op.tail⟩,hup.gr0,hup.chb,hup.mub,hup.has⟩,rfl⟩
       have:=hup.dn o f
       unfold z3M at this ⊢
       simp only [zaT,List.any_append,this,List.any_cons,List.any_nil,Bool.or_false]
       rw [Bool.or_comm]
       congr 1
       rw [Bool.eq_iff_iff]
       simp only [Bool.and_eq_true,beq_iff_eq,decide_eq_true_eq]
       exact ⟨fun h=>⟨h.1.symm,h.2.symm⟩,fun h=>⟨h.1.symm,h.2.symm⟩⟩
     ·by_cases k13:e.kind=13
      ·simp only [k13,beq_self_eq_true,if_true,show ((13:Int)==6)=false from rfl,show ((13:Int)==7)=false from rfl,show ((13:Int)==8)=false from rfl,show ((13:Int)==9)=false from rfl,show ((13:Int)==12)=false from rfl,Bool.false_eq_true,if_false]
       refine ⟨by cases s.dn e.obj e.off <;> rfl,fun t ht=>?_⟩
       split at ht
       ·cases ht;exact ⟨hup,rfl⟩
       ·cases ht
      ·by_cases k14:e.kind=14
       ·simp only [k14,beq_self_eq_true,if_true,show ((14:Int)==6)=false from rfl,show ((14:Int)==7)=false from rfl,show ((14:Int)==8)=false from rfl,show ((14:Int)==9)=false from rfl,show ((14:Int)==12)=false from rfl,show ((14:Int)==13)=false from rfl,Bool.false_eq_true,if_false]
        have hg:=h.gr0
        have hw:wI (s.gor+1)=s.gor+1:=z6U (by omega) (by omega)
        have hgr:=h.gor
        refine ⟨?_,fun t ht=>?_⟩
        ·rw [hgr]
         by_cases hk2:e.k=r.gor <;> simp [hk2]
        ·split at ht
         ·cases ht
         ·cases ht
          refine ⟨⟨hup.ev,by simp [hgr],hup.ch,hup.mu,hup.dn,⟨hup.op.kinds,hup.op.at',hup.op.own,hup.op.head,hup.op.rest,hup.op.tail⟩,?_,hup.chb,hup.mub,hup.has⟩,rfl⟩
          simp only [hw];omega
       ·have n6:(e.kind==6)=false:=by simpa using k6
        have n7:(e.kind==7)=false:=by simpa using k7
        have n8:(e.kind==8)=false:=by simpa using k8
        have n9:(e.kind==9)=false:=by simpa using k9
        have n12:(e.kind==12)=false:=by simpa using k12
        have n13:(e.kind==13)=false:=by simpa using k13
        have n14:(e.kind==14)=false:=by simpa using k14
        simp only [n6,n7,n8,n9,n12,n13,n14,Bool.false_eq_true,if_false]
        exact ⟨rfl,fun t ht=>by cases ht;exact ⟨hup,rfl⟩⟩
def zaE (r:Rs) (nx:List Wt) (o k n:Int):Rs := { r with next:=nx,obj:=o,k:=k,n:=n }
theorem Inv.to {s:Ps} {r:Rs} {m:Int} (h:Inv s r m) (g:Gp) (nx:List Wt) (ro rk rn o:Int) (c:Ch) (hg:Gk g (zaE r nx ro rk rn)) (hc:ChOk g (m+1) o c) (hoth : ∀ o' c',o' ≠ o→s.ch o' = some c' → ChOk g (m+1) o' c') (hobj:g.obj=o) :
  Inv (z0E (z1n s g) o c) (setC (zaE r nx ro rk rn) (toCn o c)) (m+1):=by
 have hup:=h.up
 refine ⟨hup.ev,hup.gor,fun o' n=>?_,hup.mu,hup.dn,⟨hg.kinds,hg.at',hg.own,hg.head,hg.rest,hg.tail⟩,hup.gr0,fun o' c' hc'=>?_,hup.mub,fun hk=>⟨c,?_⟩⟩
 ·rw [z8X,z4H]
  by_cases e:o' = o
  ·rw [if_pos e,if_pos (show (toCn o c).obj=o' from e.symm),e];rfl
  ·rw [if_neg e,if_neg (fun h:(toCn o c).obj=o'=>e h.symm)];exact h.ch o' n
 ·rw [z4H] at hc'
  split at hc'
  ·rename_i e;cases hc';rw [e];exact hc
  ·rename_i e;exact hoth o' c' e hc'
 ·show (z0E (z1n s g) o c).ch g.obj=some c
  rw [z4H,if_pos hobj]
theorem Inv.opTo {s:Ps} {r:Rs} {m:Int} (h:Inv s r m) (g:Gp) (nx:List Wt) (hg:Gk g (z2f r nx)) (hall : ∀ o' c',s.ch o' = some c' → ChOk g (m+1) o' c') (hhas:g.kinds ≠ [] → ∃ c,s.ch g.obj=some c):Inv (z1n s g) (z2f r nx) (m+1):=by
 have hup:=h.up
 exact ⟨hup.ev,hup.gor,hup.ch,hup.mu,hup.dn,⟨hg.kinds,hg.at',hg.own,hg.head,hg.rest,hg.tail⟩,hup.gr0,hall,hup.mub,hhas⟩
theorem next_nil {s:Ps} {r:Rs} {m:Int} (h:Inv s r m) (hk:s.op.kinds = []):r.next = []:=by
 have:=h.op.kinds
 rw [hk] at this
 exact List.map_eq_nil_iff.1 this.symm
theorem za0 {s:Ps} {r:Rs} {m:Int} (h:Inv s r m) (e:Ev) (hk:s.op.kinds = []) : 0≤(qV s e).sent∧(qV s e).sent≤m ∧ 0≤(qV s e).recv∧(qV s e).recv≤(qV s e).sent:=by
 have hg:=h.gr0
 unfold qV
 cases hc:s.ch e.obj with
 | none=>simp [ch0];omega
 | some c =>
  have:=h.chb _ _ hc
  exact ⟨this.s0,this.s1,this.r0,this.le (.inl (by rw [hk];simp))⟩
theorem start_eq (s:Ps) (e:Ev) (c:Ch) (kinds:List Int) (snd rcv:Int):z3p s e c kinds snd rcv=z0E (z1n s ⟨kinds,e.obj,e.k,e.n,snd,rcv⟩) e.obj (z0t c e.kind):=by
 unfold z3p countP
 have e1:(z1n (z0E s e.obj c) ⟨kinds,e.obj,e.k,e.n,snd,rcv⟩).ch e.obj=some c:=by show (if e.obj=e.obj then some c else s.ch e.obj)=some c;rw [if_pos rfl]
 rw [e1,Option.getD_some]
 unfold z0E z1n
 simp only [Ps.mk.injEq,true_and,and_true]
 funext x
 split <;> rfl
theorem begin_eq {s:Ps} {r:Rs} {m:Int} (h:Inv s r m) (e:Ev) (nx:List Wt) (hk:e.kind=15∨e.kind=17):z1Q r e nx=setC (zaE r nx e.obj e.k e.n) (toCn e.obj (z0t (qV s e) e.kind)):=by
 have hc:qo e.obj e.n (z7Y r e nx).chans=toCn e.obj (qV s e):=h.ch e.obj e.n
 unfold z1Q qO z0t
 rw [hc]
 rcases hk with k|k <;> simp [k,z7t,z7o,toCn,z7Y,zaE]
theorem Inv.start {s:Ps} {r:Rs} {m:Int} (h:Inv s r m) (hk:s.op.kinds = []) (e:Ev) (hm:m<5000) (kinds:List Int) (snd rcv:Int) (nx:List Wt) (he:e.kind=15∨e.kind=17) (hkn:kinds=nx.map (·.kind)) (h15:kinds.head? = some 15→e.kind=17)
  (h17:kinds.head? = some 17→e.kind=15) (hle:e.kind=17→kinds.head? ≠ some 15→(qV s e).recv<(qV s e).sent) (hown : ∀ w ∈ nx,w.g=ownP snd rcv w.kind) (hhead : ∀ w l,nx=w :: l→w.g<0→w.not=othP snd rcv w.kind ∧ 0≤othP snd rcv w.kind)
  (hrest : ∀ w l,nx=w :: l → 0≤w.g → ∀ x ∈ l,0≤x.g) (htail : ∀ x ∈ kinds.tail,x ≠ 15∧x ≠ 17):Inv (z3p s e (qV s e) kinds snd rcv) (z1Q r e nx) (m+1):=by
 rw [start_eq,begin_eq h e nx he]
 obtain ⟨c0,c1,c2,c3⟩:=za0 h e hk
 obtain ⟨c,hc⟩ : ∃ c,c=qV s e:=⟨_,rfl⟩
 rw [← hc] at c0 c1 c2 c3 hle ⊢
 have hw1:wI (c.sent+1)=c.sent+1:=z6U (by omega) (by omega)
 have hw2:wI (c.recv+1)=c.recv+1:=z6U (by omega) (by omega)
 refine h.to _ nx e.obj e.k e.n e.obj _ ⟨hkn,fun _=>⟨rfl,rfl,rfl⟩,hown,hhead,hrest,htail⟩ ?_ (fun o' c' ho hc'=>?_) rfl
 ·rcases he with k|k
  ·have e2:z0t c e.kind = { c with sent:=c.sent+1 }:=by simp [z0t,k,hw1]
   rw [e2]
   refine ⟨by simp only;omega,by simp only;omega,c2,by simp only;omega,fun _=>by simp only;omega,by simp only;omega,fun _=>by simp only;omega⟩
  ·have e2:z0t c e.kind = { c with recv:=c.recv+1 }:=by simp [z0t,k,hw2]
   rw [e2]
   refine ⟨c0,by simp only;omega,by simp only;omega,by simp only;omega,fun hh=>?_,by simp only;omega,fun hh=>?_⟩
   ·rcases hh with hh|hh
    ·have:=hle k hh;simp only;omega
    ·exact absurd rfl hh
   ·have:=h17 hh.1;omega
 ·have hco:=h.chb o' c' hc'
  have:=hco.le (.inl (by rw [hk];simp))
  have h0:=hco.s0
  have h1:=hco.s1
  have h2:=hco.r0
  have h3:=hco.r1
  exact ⟨h0,by omega,h2,by omega,fun _=>this,by omega,fun hh=>absurd hh.2 ho⟩
theorem sim_oper {s:Ps} {r:Rs} {m:Int} (h:Inv s r m) (e:Ev) (hm:m<5000) (hk:s.op.kinds = []) (hg0 : 0≤e.g) (hn0 : 0≤e.n):(z0K s e).isSome=(z0I r e).2 ∧ ∀ t,z0K s e=some t→Inv t (z0I r e).1 (m+1)∧t.ev=s.ev:=by
 obtain ⟨c0,c1,c2,c3⟩:=za0 h e hk
 have hch:=chan_at h e
 have hgor:=h.gor
 have hg1:=h.gr0
 have hup:=h.up
 have hst:=fun kinds snd rcv nx=>h.start hk e hm kinds snd rcv nx
 unfold z0K z0I
 rw [hch]
 obtain ⟨c,hc⟩ : ∃ c,c=qV s e:=⟨_,rfl⟩
 rw [← hc] at c0 c1 c2 c3 hst ⊢
 have hw:wI (c.sent-c.recv)=c.sent-c.recv:=z6U (by omega) (by omega)
 have hw' : IntKind.i64.wrap (c.sent-c.recv)=c.sent-c.recv:=hw
 obtain ⟨cn,hcn⟩ : ∃ cn,cn=toCn e.obj c:=⟨_,rfl⟩
 rw [← hcn]
 have f0:cn.obj=e.obj:=by rw [hcn];rfl
 have f1:cn.n=c.cap:=by rw [hcn];rfl
 have f2:cn.sent=c.sent:=by rw [hcn];rfl
 have f3:cn.recv=c.recv:=by rw [hcn];rfl
 have f4:cn.closed=c.closed:=by rw [hcn];rfl
 simp only [f0,f1,f2,f3,f4]
 by_cases hcap:c.cap=e.n
 ·have d0:(c.cap != e.n)=false:=by simp [hcap]
  simp only [d0,Bool.false_eq_true,if_false]
  by_cases k19:e.kind=19
  ·simp only [k19,beq_self_eq_true,if_true,show ((19:Int)==15)=false from rfl,show ((19:Int)==17)=false from rfl,Bool.false_eq_true,if_false]
   by_cases hcl:c.closed=true
   ·rw [if_pos hcl,if_neg (by simp [hcl])];simp
   ·rw [if_neg hcl,if_pos (by simp [hcl])]
    simp only [Option.isSome_some,true_and]
    intro t ht
    cases ht
    refine ⟨?_,rfl⟩
    have:=hup.chTo e.obj { c with closed:=true } ⟨c0,by simp only;omega,c2,by simp only;omega,fun _=>c3,by simp only;omega,fun hh=>by rw [hk] at hh;simp at hh⟩
    exact this
  ·by_cases k20:e.kind=20
   ·simp only [k20,beq_self_eq_true,if_true,show ((20:Int)==15)=false from rfl,show ((20:Int)==17)=false from rfl,show ((20:Int)==19)=false from rfl,Bool.false_eq_true,if_false]
    cases hb:(c.closed&&c.sent==c.recv) with
    | true=>simp only [if_true,Option.isSome_some,true_and];intro t ht;cases ht;exact ⟨hup,rfl⟩
    | false=>simp
   ·have n19:(e.kind==19)=false:=by simpa using k19
    have n20:(e.kind==20)=false:=by simpa using k20
    by_cases k15:e.kind=15
    ·simp only [k15,beq_self_eq_true,if_true,show ((15:Int)==19)=false from rfl,show ((15:Int)==20)=false from rfl,Bool.false_eq_true,if_false]
     rw [Bool.or_comm c.closed]
     by_cases hb:(e.k != c.sent||c.closed)=true
     ·rw [if_pos hb,if_pos hb];simp
     ·rw [if_neg hb,if_neg hb,hw,hw']
      by_cases hlt:c.sent-c.recv<c.cap
      ·have e1:(decide (0<c.cap)&&decide (c.sent-c.recv<c.cap))=true:=by simp;omega
       rw [if_pos hlt,if_pos e1]
       refine ⟨rfl,fun t ht=>?_⟩
       cases ht
       refine ⟨hst [16] e.g (-1) [⟨16,e.g,0⟩] (.inl k15) rfl (by simp) (by simp) (fun h17=>by omega) (by simp [ownP,z0j]) (fun w l hl hw=>?_) (fun w l hl hw x hx=>?_) (by simp),rfl⟩
       ·cases hl;simp only at hw;omega
       ·cases hl;cases hx
      ·have e1:(decide (0<c.cap)&&decide (c.sent-c.recv<c.cap))=false:=by simp [hlt]
       rw [if_neg hlt,if_neg (show ¬ (decide (0<c.cap)&&decide (c.sent-c.recv<c.cap))=true by rw [e1];simp)]
       by_cases h2:(c.cap==0 && !(s.gor==1))=true
       ·have e2:(c.cap==0&&decide (1<r.gor))=true:=by
         simp only [Bool.and_eq_true,beq_iff_eq,Bool.not_eq_true',beq_eq_false_iff_ne,decide_eq_true_eq] at h2 ⊢
         exact ⟨h2.1,by rw [← hgor];have:=h2.2;omega⟩
        rw [if_pos h2,if_pos e2]
        refine ⟨rfl,fun t ht=>?_⟩
        cases ht
        refine ⟨hst [17,18,16] e.g (-1) [⟨17,-1,e.g⟩,⟨18,-1,0⟩,⟨16,e.g,0⟩] (.inl k15) rfl (by simp) (fun _=>k15) (fun h17=>by omega) (by simp [ownP,z0j]) (fun w l hl hw=>?_) (fun w l hl hw x hx=>?_) (by simp),rfl⟩
        ·cases hl;exact ⟨by simp [othP,z0j],by simp [othP,z0j];exact hg0⟩
        ·cases hl;simp only at hw;omega
       ·have e2:(c.cap==0&&decide (1<r.gor))=false:=by
         rw [← hgor]
         cases h3:(c.cap==0) with
         | false=>rfl
         | true =>
          rw [h3] at h2
          simp only [Bool.true_and,Bool.not_eq_true',Bool.not_eq_false,beq_iff_eq] at h2
          simp [h2]
        rw [if_neg h2,if_neg (show ¬ (c.cap==0&&decide (1<r.gor))=true by rw [e2];simp)];simp
    ·have n15:(e.kind==15)=false:=by simpa using k15
     by_cases k17:e.kind=17
     ·simp only [k17,beq_self_eq_true,if_true,show ((17:Int)==19)=false from rfl,show ((17:Int)==20)=false from rfl,show ((17:Int)==15)=false from rfl,Bool.false_eq_true,if_false]
      by_cases hb:(e.k != c.recv)=true
      ·rw [if_pos hb,if_pos hb];simp
      ·rw [if_neg hb,if_neg hb]
       by_cases hlt:c.recv<c.sent
       ·rw [if_pos hlt,if_pos (by simpa using hlt)]
        refine ⟨rfl,fun t ht=>?_⟩
        cases ht
        refine ⟨hst [18] (-1) e.g [⟨18,e.g,0⟩] (.inr k17) rfl (by simp) (by simp) (fun _ _=>hlt) (by simp [ownP,z0j]) (fun w l hl hw=>?_) (fun w l hl hw x hx=>?_) (by simp),rfl⟩
        ·cases hl;simp only at hw;omega
        ·cases hl;cases hx
       ·rw [if_neg hlt,if_neg (show ¬ decide (c.recv<c.sent)=true by simpa using hlt)]
        by_cases h2:(!c.closed && !(s.gor==1))=true
        ·have e2:(!c.closed&&decide (1<r.gor))=true:=by
          simp only [Bool.and_eq_true,Bool.not_eq_true',beq_eq_false_iff_ne,decide_eq_true_eq] at h2 ⊢
          exact ⟨h2.1,by rw [← hgor];have:=h2.2;omega⟩
         rw [if_pos h2,if_pos e2]
         refine ⟨rfl,fun t ht=>?_⟩
         cases ht
         refine ⟨hst [15,18,16] (-1) e.g [⟨15,-1,e.g⟩,⟨18,e.g,0⟩,⟨16,-1,0⟩] (.inr k17) rfl (fun _=>k17) (by simp) (fun _ hh=>absurd rfl hh) (by simp [ownP,z0j]) (fun w l hl hw=>?_) (fun w l hl hw x hx=>?_) (by simp),rfl⟩
         ·cases hl;exact ⟨by simp [othP,z0j],by simp [othP,z0j];exact hg0⟩
         ·cases hl;simp only at hw;omega
        ·have e2:(!c.closed&&decide (1<r.gor))=false:=by
          rw [← hgor]
          cases h3:(!c.closed) with
          | false=>rfl
          | true =>
           rw [h3] at h2
           simp only [Bool.true_and,Bool.not_eq_true',Bool.not_eq_false,beq_iff_eq] at h2
           simp [h2]
         rw [if_neg h2,if_neg (show ¬ (!c.closed&&decide (1<r.gor))=true by rw [e2];simp)];simp
     ·have n17:(e.kind==17)=false:=by simpa using k17
      simp [n15,n17,n19,n20]
 ·have d0:(c.cap != e.n)=true:=by simp [hcap]
  simp [d0]
theorem zat (e:Ev) (w x:Wt):(fixW e w x).kind=x.kind:=by unfold fixW;split <;> rfl
theorem fix_map (e:Ev) (w:Wt) (l:List Wt):(l.map (fixW e w)).map (·.kind)=l.map (·.kind):=by
 rw [List.map_map];exact List.map_congr_left fun x _=>zat e w x
theorem z2i (o:Gp) (e:Ev) (r:List Int):(z1w o e r).kinds=r:=by unfold z1w;split <;> rfl
theorem z5x (o:Gp) (e:Ev) (r:List Int):(z1w o e r).obj=o.obj:=by unfold z1w;split <;> rfl
theorem ownGp_k (o:Gp) (e:Ev) (r:List Int):(z1w o e r).k=o.k:=by unfold z1w;split <;> rfl
theorem ownGp_n (o:Gp) (e:Ev) (r:List Int):(z1w o e r).n=o.n:=by unfold z1w;split <;> rfl
theorem ownGp_own (o:Gp) (e:Ev) (r:List Int) (k:Int):ownP (z1w o e r).snd (z1w o e r).rcv k=if z0j k=z0j e.kind then e.g else ownP o.snd o.rcv k:=by
 unfold z1w ownP
 cases h1:z0j e.kind <;> cases h2:z0j k <;> simp
theorem za8 {s r k k' : Int} (h:z0j k=z0j k'):ownP s r k=ownP s r k':=by unfold ownP;rw [h]
theorem oth_side {s r k k' : Int} (h:z0j k ≠ z0j k'):ownP s r k=othP s r k':=by
 unfold ownP othP
 cases h1:z0j k <;> cases h2:z0j k' <;> simp_all
theorem gk_next {g:Gp} {r:Rs} (h:Gk g r) {w:Wt} {l:List Wt} (hw:r.next=w :: l) (e:Ev) (hk:e.kind=w.kind) (hg0 : 0≤e.g) (hok : 0≤w.g→e.g=w.g):Gk (z1w g e (l.map (·.kind))) (z2f r (l.map (fixW e w))):=by
 have ho:=h.own
 rw [hw] at ho
 have how:=ho w (by simp)
 have hres : ∀ x ∈ l,(fixW e w x).g=(if z0j x.kind=z0j e.kind then e.g else ownP g.snd g.rcv x.kind) ∧ 0≤(fixW e w x).g:=fun x hx=>by
  have hox:=ho x (List.mem_cons_of_mem _ hx)
  unfold fixW
  by_cases hwg:w.g<0
  ·obtain ⟨_,h2⟩:=h.head w l hw hwg
   by_cases hs:z0j x.kind=z0j e.kind
   ·rw [if_pos hs]
    have e1:x.g=w.g:=by rw [hox,how];exact za8 (by rw [hs,hk])
    rw [if_pos (by simp;omega)]
    exact ⟨rfl,hg0⟩
   ·rw [if_neg hs]
    have e1:x.g=othP g.snd g.rcv w.kind:=by rw [hox];exact oth_side (by rw [← hk];exact hs)
    rw [if_neg (by simp;omega)]
    exact ⟨hox,by omega⟩
  ·rw [if_neg (by simp;omega)]
   have h0 : 0≤w.g:=by omega
   refine ⟨?_,h.rest w l hw h0 x hx⟩
   by_cases hs:z0j x.kind=z0j e.kind
   ·rw [if_pos hs,hok h0,hox,how];exact za8 (by rw [hs,hk])
   ·rw [if_neg hs];exact hox
 have hat:=h.at' (by rw [hw];simp)
 have hall : ∀ x' ∈ l.map (fixW e w),0≤x'.g:=fun x' hx'=>by
  obtain ⟨x,hx,rfl⟩:=List.mem_map.1 hx'
  exact (hres x hx).2
 refine ⟨?_,fun _=>?_,fun x' hx'=>?_,fun w' l' hw' hneg=>?_,fun w' l' hw' h0 x' hx'=>?_,fun x hx=>?_⟩
 ·rw [z2i];exact (fix_map e w l).symm
 ·rw [z5x,ownGp_k,ownGp_n];exact hat
 ·obtain ⟨x,hx,rfl⟩:=List.mem_map.1 hx'
  rw [ownGp_own,zat]
  exact (hres x hx).1
 ·have:=hall w' (by rw [show l.map (fixW e w)=w' :: l' from hw'];simp)
  omega
 ·exact hall x' (by rw [show l.map (fixW e w)=w' :: l' from hw'];exact List.mem_cons_of_mem _ hx')
 ·rw [z2i] at hx
  refine h.tail x ?_
  rw [h.kinds,hw,List.map_cons,List.tail_cons]
  exact List.mem_of_mem_tail hx
theorem sim_group {s:Ps} {r:Rs} {m:Int} (h:Inv s r m) (e:Ev) (hm:m<5000) (hg0 : 0≤e.g) {kd:Int} {ks:List Int} (hk:s.op.kinds=kd :: ks) : ∃ w l,r.next=w :: l∧(z4a s kd ks e).isSome=(zZ r e w l).2 ∧ ∀ t,z4a s kd ks e=some t→Inv t (zZ r e w l).1 (m+1)∧t.ev=s.ev:=by
 have hkn:=h.op.kinds
 rw [hk] at hkn
 cases hw:r.next with
 | nil=>rw [hw] at hkn;cases hkn
 | cons w l =>
  rw [hw] at hkn
  simp only [List.map_cons,List.cons.injEq] at hkn
  obtain ⟨hkd,hks⟩:=hkn
  refine ⟨w,l,rfl,?_⟩
  obtain ⟨a1,a2,a3⟩:=h.op.at' (by rw [hw];simp)
  have how:=h.op.own w (by rw [hw];simp)
  have hbad:badB r e w = !(fitP s.op kd e && !badP (ownP s.op.snd s.op.rcv e.kind) (othP s.op.snd s.op.rcv e.kind) e.g):=by
   unfold badB fitP
   rw [← a1,← a2,← a3,← hkd]
   by_cases hek:e.kind=kd
   ·have e1:ownP s.op.snd s.op.rcv e.kind=w.g:=by rw [how,hek,hkd]
    rw [e1]
    unfold badP
    by_cases hneg:w.g<0
    ·have hh:=(h.op.head w l hw hneg).1
     have e2:othP s.op.snd s.op.rcv e.kind=w.not:=by rw [hh,hek,hkd]
     rw [e2]
     have : ¬ 0≤w.g:=by omega
     simp [hneg,this,Bool.or_assoc]
    ·have h0 : 0≤w.g:=by omega
     simp [hneg,h0,Bool.or_assoc]
   ·have e1:(e.kind != kd)=true:=by simpa using hek
    simp [e1]
  have hproc:z4a s kd ks e=if badB r e w=false then some (countP (z1n s (z1w s.op e ks)) e) else none:=by
   unfold z4a
   rw [hbad]
   cases fitP s.op kd e <;> cases badP (ownP s.op.snd s.op.rcv e.kind) (othP s.op.snd s.op.rcv e.kind) e.g <;> simp
  rw [hproc]
  unfold zZ
  cases hb:badB r e w with
  | true=>simp
  | false =>
   simp only [if_true,Bool.false_eq_true,if_false,Option.isSome_some,true_and]
   intro t ht
   cases ht
   refine ⟨?_,rfl⟩
   have hb2:=hb
   simp only [badB,Bool.or_eq_false_iff,bne_eq_false_iff_eq] at hb2
   obtain ⟨⟨⟨⟨⟨b1,b2⟩,b3⟩,b4⟩,b5⟩,b6⟩:=hb2
   have hok : 0≤w.g→e.g=w.g:=fun h0=>by simpa [h0] using b5
   have hg:=gk_next h.op hw e b1 hg0 hok
   rw [← hks] at hg
   have hobj:e.obj=s.op.obj:=by rw [b2,a1]
   obtain ⟨c,hc⟩:=h.has (by rw [hk];simp)
   rw [← hobj] at hc
   have hco:=h.chb _ _ hc
   have htl : ∀ x ∈ ks,x ≠ 15∧x ≠ 17:=fun x hx=>h.op.tail x (by rw [hk];exact hx)
   have hh15:ks.head? ≠ some 15:=fun h2=>by
    cases ks with
    | nil=>cases h2
    | cons y ks=>cases h2;exact (htl 15 (by simp)).1 rfl
   have hh17:ks.head? ≠ some 17:=fun h2=>by
    cases ks with
    | nil=>cases h2
    | cons y ks=>cases h2;exact (htl 17 (by simp)).2 rfl
   have hhd:s.op.kinds.head? = some e.kind:=by rw [hk,b1,hkd];rfl
   have hoth : ∀ o' c',o' ≠ e.obj→s.ch o' = some c' → ChOk (z1w s.op e ks) (m+1) o' c':=fun o' c' ho hc'=>by
    have h1:=(h.chb _ _ hc').up
    exact ⟨h1.s0,h1.s1,h1.r0,h1.r1,fun _=>h1.le (.inr (by rw [← hobj];exact ho)),h1.le1,fun hh=>by rw [z2i] at hh;exact absurd hh.1 hh17⟩
   have hcnt:countP (z1n s (z1w s.op e ks)) e=z0E (z1n s (z1w s.op e ks)) e.obj (z0t c e.kind):=by
    unfold countP
    rw [show (z1n s (z1w s.op e ks)).ch e.obj=some c from hc,Option.getD_some]
   have hreq : ∀ c',z0t c e.kind=c' → (e.kind=15∨e.kind=17)→qO (z2f r (l.map (fixW e w))) e=setC (zaE r (l.map (fixW e w)) r.obj r.k r.n) (toCn e.obj c'):=fun c' hc' hk2=>by
    have hcb:qo e.obj e.n (z2f r (l.map (fixW e w))).chans=toCn e.obj c:=by
     have:=h.ch e.obj e.n
     rw [hc,Option.getD_some] at this
     exact this
    unfold qO
    rw [hcb,← hc']
    unfold z0t
    rcases hk2 with k|k <;> simp [k,z7t,z7o,toCn,z2f,zaE]
   have s0:=hco.s0
   have s1:=hco.s1
   have r0:=hco.r0
   have r1:=hco.r1
   have le1:=hco.le1
   by_cases k15:e.kind=15
   ·have hw1:wI (c.sent+1)=c.sent+1:=z6U (by omega) (by omega)
    have e2:z0t c e.kind = { c with sent:=c.sent+1 }:=by simp [z0t,k15,hw1]
    rw [hcnt,hreq _ e2 (.inl k15),e2]
    refine h.to (z1w s.op e ks) (l.map (fixW e w)) r.obj r.k r.n e.obj _ ⟨hg.kinds,hg.at',hg.own,hg.head,hg.rest,hg.tail⟩ ⟨by simp only;omega,by simp only;omega,r0,by simp only;omega,fun _=>by simp only;omega,by simp only;omega,fun hh=>?_⟩ hoth (by rw [z5x];exact hobj.symm)
    rw [z2i] at hh;exact absurd hh.1 hh17
   ·have hle:=hco.le (.inl (by rw [hhd];simpa using k15))
    by_cases k17:e.kind=17
    ·have hlt:=hco.lt ⟨by rw [hhd,k17],hobj⟩
     have hw1:wI (c.recv+1)=c.recv+1:=z6U (by omega) (by omega)
     have e2:z0t c e.kind = { c with recv:=c.recv+1 }:=by simp [z0t,k17,hw1]
     rw [hcnt,hreq _ e2 (.inr k17),e2]
     refine h.to (z1w s.op e ks) (l.map (fixW e w)) r.obj r.k r.n e.obj _ ⟨hg.kinds,hg.at',hg.own,hg.head,hg.rest,hg.tail⟩ ⟨by simp only;omega,by simp only;omega,by simp only;omega,by simp only;omega,fun _=>by simp only;omega,by simp only;omega,fun hh=>?_⟩ hoth (by rw [z5x];exact hobj.symm)
     rw [z2i] at hh;exact absurd hh.1 hh17
    ·have e2:z0t c e.kind=c:=by simp [z0t,k15,k17]
     have e3:qO (z2f r (l.map (fixW e w))) e=z2f r (l.map (fixW e w)):=by simp [qO,k15,k17]
     rw [hcnt,e2,e3]
     have hinv:=h.opTo (z1w s.op e ks) (l.map (fixW e w)) hg (fun o' c' hc'=>by
      by_cases ho:o' = e.obj
      ·subst ho
       rw [hc] at hc';cases hc'
       exact ⟨s0,by omega,r0,by omega,fun _=>hle,le1,fun hh=>by rw [z2i] at hh;exact absurd hh.1 hh17⟩
      ·exact hoth o' c' ho hc') (fun _=>⟨c,by rw [z5x,← hobj];exact hc⟩)
     exact hinv.sameCh e.obj c hc
theorem sim_add {s:Ps} {r:Rs} {m:Int} (h:Inv s r m) (hev:s.ev=m) (e:Ev):(addP s e).isSome=(addB r e).2 ∧ ∀ t,addP s e=some t→Inv t (addB r e).1 (m+1)∧t.ev=m+1:=by
 have hno:=noAdd_eq h e
 have hg1:=h.gr0
 unfold addP addB
 rw [hno]
 cases hn:z2E r e with
 | true=>simp
 | false =>
  have hn2:=hn
  simp only [z2E,Bool.or_eq_false_iff,Bool.not_eq_false',decide_eq_false_iff_not] at hn2
  obtain ⟨⟨hv,hcn⟩,_⟩:=hn2
  have hm:m<5000:=by rw [← h.ev,hev] at hcn;omega
  have hg0:=(validB_g hv).1
  have hn0:=validB_n hv
  have hstep:(z1a s e).isSome=(z1M r e).2 ∧ ∀ t,z1a s e=some t→Inv t (z1M r e).1 (m+1)∧t.ev=s.ev:=by
   unfold z1a
   cases hk:s.op.kinds with
   | cons kd ks =>
    obtain ⟨w,l,h1,h2⟩:=sim_group h e hm hg0 hk
    have:z1M r e=zZ r e w l:=by unfold z1M;rw [h1]
    rw [this]
    exact h2
   | nil =>
    have hnx:=next_nil h hk
    have:z1M r e=if zV e.kind=true then z0I r e else zX r e:=by unfold z1M;rw [hnx]
    rw [this]
    dsimp only
    cases hc:zV e.kind with
    | true=>simp only [if_true];exact sim_oper h e hm hk hg0 hn0
    | false=>simp only [Bool.false_eq_true,if_false];exact sim_simp h e (by omega) hk
  simp only [Bool.false_eq_true,if_false]
  rw [← hstep.1]
  cases hs:z1a s e with
  | none=>simp
  | some t =>
   obtain ⟨h1,h2⟩:=hstep.2 t hs
   simp only [Option.map_some,Option.isSome_some,if_true,true_and]
   intro t' ht'
   cases ht'
   refine ⟨h1.cnt,?_⟩
   show wI (t.ev+1)=m+1
   rw [h2,hev]
   exact z6U (by omega) (by omega)
theorem go_eq : ∀ (l:List Ev) {s:Ps} {r:Rs} {m:Int} (k:Int),Inv s r m→s.ev=m→goP s l=(goB r k l).2
 | [],_,_,_,_,_,_=>rfl
 | e :: l,s,r,m,k,h,hev=>by
  obtain ⟨h1,h2⟩:=sim_add h hev e
  rw [goP,goB,← h1]
  cases ha:addP s e with
  | none=>simp
  | some t =>
   obtain ⟨h3,h4⟩:=h2 t ha
   simp only [Option.isSome_some,if_true]
   exact go_eq l (k+1) h3 h4
theorem z5Q (l:List Ev):goP ps0 l=(qg l).2:=go_eq l 0 inv0 rfl
structure Pv (s:Ps):Prop where
 ev0 : 0≤s.ev
 gor1 : 1≤s.gor
 gor2:s.gor≤s.ev+1
 kinds : ∀ x ∈ s.op.kinds,15≤x∧x≤18
 has:s.op.kinds ≠ [] → ∃ c,s.ch s.op.obj=some c∧c.cap=s.op.n
theorem pv0:Pv ps0:=⟨Int.le_refl _,Int.le_refl _,by decide,fun x h=>(by cases h),fun h=>absurd rfl h⟩
structure St1 (s:Ps) (e:Ev) (t:Ps):Prop where
 ev:t.ev=s.ev
 gor:(e.kind=14∧e.k=s.gor∧t.gor=wI (s.gor+1))∨(e.kind ≠ 14∧t.gor=s.gor)
 kinds : ∀ x ∈ t.op.kinds,15≤x∧x≤18
 has:t.op.kinds ≠ [] → ∃ c,t.ch t.op.obj=some c∧c.cap=t.op.n
 keep : ∀ o c,s.ch o=some c → ∃ c',t.ch o=some c' ∧ c'.cap=c.cap
 cap:zV e.kind=true→(∃ c,t.ch e.obj=some c∧c.cap=e.n) ∧ ∀ c,s.ch e.obj=some c→c.cap=e.n
theorem z2Q (c:Ch) (k:Int):(z0t c k).cap=c.cap:=by
 unfold z0t
 split
 ·rfl
 ·split <;> rfl
theorem proc_st {s:Ps} (h:Pv s) {kd:Int} {r:List Int} (hk:s.op.kinds=kd :: r) {e:Ev} {t:Ps} (ht:z4a s kd r e=some t):St1 s e t:=by
 unfold z4a at ht
 split at ht
 ·rename_i hc
  cases ht
  obtain ⟨hf,_⟩:=hc
  simp only [fitP,Bool.not_eq_true',Bool.or_eq_false_iff,bne_eq_false_iff_eq] at hf
  obtain ⟨⟨⟨f1,f2⟩,f3⟩,f4⟩:=hf
  have hkd:=h.kinds kd (by rw [hk];simp)
  obtain ⟨c,hc1,hc2⟩:=h.has (by rw [hk];simp)
  have hop:(z1w s.op e r).kinds=r∧(z1w s.op e r).obj=s.op.obj∧(z1w s.op e r).n=s.op.n:=by unfold z1w;split <;> exact ⟨rfl,rfl,rfl⟩
  have hch : ∀ o,(countP (z1n s (z1w s.op e r)) e).ch o=if o=e.obj then some (z0t c e.kind) else s.ch o:=fun o=>by
   simp only [countP,z0E,z1n]
   rw [f2,hc1];rfl
  refine ⟨rfl,.inr ⟨by omega,rfl⟩,fun x hx=>?_,fun hne=>?_,fun o c' ho=>?_,fun _=>⟨⟨z0t c e.kind,by rw [hch,if_pos rfl],by rw [z2Q,hc2,f4]⟩,fun c' hc'=>?_⟩⟩
  ·have hx' : x ∈ r:=by have:=hop.1;simp only [countP,z0E,z1n] at hx;rw [this] at hx;exact hx
   exact h.kinds x (by rw [hk];simp [hx'])
  ·refine ⟨z0t c e.kind,?_,?_⟩
   ·rw [hch]
    have:(countP (z1n s (z1w s.op e r)) e).op.obj=e.obj:=by show (z1w s.op e r).obj=e.obj;rw [hop.2.1,f2]
    rw [this,if_pos rfl]
   ·rw [z2Q,hc2]
    exact hop.2.2.symm
  ·rw [hch]
   split
   ·rename_i e1
    rw [e1,f2,hc1] at ho
    cases ho
    exact ⟨_,rfl,z2Q _ _⟩
   ·exact ⟨c',ho,rfl⟩
  ·rw [f2,hc1] at hc'
   cases hc'
   rw [hc2,f4]
 ·cases ht
theorem zaq {s:Ps} {e:Ev} (he:e.kind=15∨e.kind=17) (hcap:(qV s e).cap=e.n) (kinds:List Int) (hk : ∀ x ∈ kinds,15≤x∧x≤18) (snd rcv:Int):St1 s e (z3p s e (qV s e) kinds snd rcv):=by
 have hch : ∀ o,(z3p s e (qV s e) kinds snd rcv).ch o=if o=e.obj then some (z0t (qV s e) e.kind) else s.ch o:=fun o=>by
  simp only [z3p,countP,z0E,z1n,if_true,Option.getD_some]
  split
  ·rfl
  ·rename_i h;rfl
 refine ⟨rfl,.inr ⟨by omega,rfl⟩,hk,fun _=>⟨z0t (qV s e) e.kind,?_,by rw [z2Q,hcap];rfl⟩,fun o c ho=>?_,fun _=>⟨⟨_,by rw [hch,if_pos rfl],by rw [z2Q,hcap]⟩,fun c hc=>?_⟩⟩
 ·rw [hch];exact if_pos rfl
 ·rw [hch]
  split
  ·rename_i e1
   subst e1
   exact ⟨_,rfl,by rw [z2Q];simp [qV,ho]⟩
  ·exact ⟨c,ho,rfl⟩
 ·rw [qV,hc] at hcap;exact hcap
theorem oper_st {s:Ps} (hn:s.op.kinds = []) {e:Ev} {t:Ps} (ht:z0K s e=some t):St1 s e t:=by
 unfold z0K at ht
 split at ht
 ·cases ht
 ·rename_i hcap
  have hcap' : (qV s e).cap=e.n:=by simpa using hcap
  have hold : ∀ c,s.ch e.obj=some c→c.cap=e.n:=fun c hc=>by rw [qV,hc] at hcap';exact hcap'
  split at ht
  ·rename_i hk
   split at ht
   ·cases ht
   ·cases ht
    have hch : ∀ o,(z0E s e.obj { qV s e with closed:=true }).ch o=if o=e.obj then some { qV s e with closed:=true } else s.ch o:=fun o=>rfl
    refine ⟨rfl,.inr ⟨by simp at hk;omega,rfl⟩,fun x hx=>?_,fun hne=>absurd hn hne,fun o c ho=>?_,fun _=>⟨⟨{ qV s e with closed:=true },by rw [hch,if_pos rfl],hcap'⟩,hold⟩⟩
    ·rw [show (z0E s e.obj { qV s e with closed:=true }).op.kinds=s.op.kinds from rfl,hn] at hx;cases hx
    ·rw [hch]
     split
     ·rename_i e1;subst e1;exact ⟨_,rfl,by simp [qV,ho]⟩
     ·exact ⟨c,ho,rfl⟩
  ·split at ht
   ·rename_i hk
    split at ht
    ·rename_i hcl
     cases ht
     have : ∃ c,s.ch e.obj=some c:=by
      cases hc:s.ch e.obj with
      | some c=>exact ⟨c,rfl⟩
      | none=>simp [qV,hc,ch0] at hcl
     obtain ⟨c,hc⟩:=this
     refine ⟨rfl,.inr ⟨by simp at hk;omega,rfl⟩,fun x hx=>?_,fun hne=>absurd hn hne,fun o c ho=>⟨c,ho,rfl⟩,fun _=>⟨⟨c,hc,hold c hc⟩,hold⟩⟩
     rw [hn] at hx;cases hx
    ·cases ht
   ·split at ht
    ·rename_i hk
     have hk' : e.kind=15∨e.kind=17 := .inl (by simpa using hk)
     repeat' (split at ht)
     all_goals first|(cases ht;done)|(cases ht;exact zaq hk' hcap' _ (by simp) _ _)
    ·split at ht
     ·rename_i hk
      have hk' : e.kind=15∨e.kind=17 := .inr (by simpa using hk)
      repeat' (split at ht)
      all_goals first|(cases ht;done)|(cases ht;exact zaq hk' hcap' _ (by simp) _ _)
     ·cases ht
theorem simp_st {s:Ps} (hn:s.op.kinds = []) {e:Ev} (hc:zV e.kind=false) {t:Ps} (ht:z0L s e=some t):St1 s e t:=by
 have key:t.ev=s.ev∧t.ch=s.ch∧t.op=s.op∧((e.kind=14∧e.k=s.gor∧t.gor=wI (s.gor+1))∨(e.kind ≠ 14∧t.gor=s.gor)):=by
  unfold z0L at ht
  by_cases h14:e.kind=14
  ·simp only [h14] at ht
   simp at ht
   obtain ⟨h1,rfl⟩:=ht
   exact ⟨rfl,rfl,rfl,.inl ⟨h14,h1,rfl⟩⟩
  ·have h14' : (e.kind==14)=false:=by simpa using h14
   simp only [h14',Bool.false_eq_true,if_false] at ht
   repeat' (split at ht)
   all_goals first|(cases ht;done)|(cases ht;exact ⟨rfl,rfl,rfl,.inr ⟨h14,rfl⟩⟩)
 obtain ⟨k1,k2,k3,k4⟩:=key
 refine ⟨k1,k4,fun x hx=>?_,fun hne=>?_,fun o c ho=>⟨c,by rw [k2];exact ho,rfl⟩,fun h=>by rw [hc] at h;cases h⟩
 ·rw [k3,hn] at hx;cases hx
 ·rw [k3] at hne;exact absurd hn hne
theorem step_st {s:Ps} (h:Pv s) {e:Ev} {t:Ps} (ht:z1a s e=some t):St1 s e t:=by
 unfold z1a at ht
 split at ht
 ·rename_i kd r hk;exact proc_st h hk ht
 ·rename_i hk
  split at ht
  ·exact oper_st hk ht
  ·rename_i hc;exact simp_st hk (by simpa using hc) ht
structure St2 (s:Ps) (e:Ev) (t:Ps):Prop where
 pv:Pv t
 gor:(e.kind=14∧e.k=s.gor∧t.gor=s.gor+1)∨(e.kind ≠ 14∧t.gor=s.gor)
 keep : ∀ o c,s.ch o=some c → ∃ c',t.ch o=some c' ∧ c'.cap=c.cap
 cap:zV e.kind=true→(∃ c,t.ch e.obj=some c∧c.cap=e.n) ∧ ∀ c,s.ch e.obj=some c→c.cap=e.n
 lt:e.g<s.gor
theorem add_st {s:Ps} (h:Pv s) {e:Ev} {t:Ps} (ht:addP s e=some t):St2 s e t:=by
 unfold addP at ht
 split at ht
 ·cases ht
 ·rename_i hn
  simp only [z5G,Bool.or_eq_true,decide_eq_true_eq,not_or] at hn
  obtain ⟨⟨_,n2⟩,n3⟩:=hn
  obtain ⟨u,hu,rfl⟩:=Option.map_eq_some_iff.1 ht
  have hs:=step_st h hu
  have h1:=h.ev0
  have h2:=h.gor1
  have h3:=h.gor2
  have he:wI (u.ev+1)=s.ev+1:=by rw [hs.ev];simp only [wI,IntKind.wrap_i64];omega
  have hg:(e.kind=14∧e.k=s.gor∧u.gor=s.gor+1)∨(e.kind ≠ 14∧u.gor=s.gor):=by
   rcases hs.gor with ⟨g1,g2,g3⟩|g
   ·refine .inl ⟨g1,g2,?_⟩
    rw [g3];simp only [wI,IntKind.wrap_i64];omega
   ·exact .inr g
  refine ⟨⟨?_,?_,?_,hs.kinds,hs.has⟩,hg,hs.keep,hs.cap,by omega⟩
  ·show 0≤wI (u.ev+1);omega
  ·show 1≤u.gor;rcases hg with g|g <;> omega
  ·show u.gor≤wI (u.ev+1)+1;rcases hg with g|g <;> omega
theorem goP_at : ∀ {l:List Ev} {s:Ps},goP s l=true→Pv s → ∀ {i:Nat} {x:Ev},l[i]? = some x → ∃ si ti,Pv si∧St2 si x ti∧goP ti (l.drop (i+1))=true
 | [],s,_,_,i,x,hx=>by simp at hx
 | e :: r,s,hg,hp,i,x,hx=>by
  rw [goP] at hg
  cases ha:addP s e with
  | none=>rw [ha] at hg;cases hg
  | some t =>
   rw [ha] at hg
   have h2:=add_st hp ha
   cases i with
   | zero =>
    cases hx
    exact ⟨s,t,hp,h2,hg⟩
   | succ i=>exact goP_at hg h2.pv hx
theorem goP_gor : ∀ {l:List Ev} {s:Ps},goP s l=true→Pv s → ∀ e ∈ l,e.kind=14→s.gor≤e.k
 | [],s,_,_,e,h=>by cases h
 | x :: r,s,hg,hp,e,h=>by
  rw [goP] at hg
  cases ha:addP s x with
  | none=>rw [ha] at hg;cases hg
  | some t =>
   rw [ha] at hg
   have h2:=add_st hp ha
   intro hk
   rcases List.mem_cons.1 h with rfl|h
   ·rcases h2.gor with ⟨_,g,_⟩|⟨g,_⟩
    ·omega
    ·exact absurd hk g
   ·have:=goP_gor hg h2.pv e h hk
    rcases h2.gor with ⟨_,_,g⟩|⟨_,g⟩ <;> omega
theorem goP_cap : ∀ {l:List Ev} {s:Ps},goP s l=true→Pv s → ∀ e ∈ l,zV e.kind=true → ∀ c,s.ch e.obj=some c→c.cap=e.n
 | [],s,_,_,e,h=>by cases h
 | x :: r,s,hg,hp,e,h=>by
  rw [goP] at hg
  cases ha:addP s x with
  | none=>rw [ha] at hg;cases hg
  | some t =>
   rw [ha] at hg
   have h2:=add_st hp ha
   intro hk c hc
   rcases List.mem_cons.1 h with rfl|h
   ·exact (h2.cap hk).2 c hc
   ·obtain ⟨c',h3,h4⟩:=h2.keep _ _ hc
    rw [← h4]
    exact goP_cap hg h2.pv e h hk c' h3
theorem z6P {l:List Ev} {i j:Nat} {y:Ev} (hij:i<j) (hy:l[j]? = some y):y ∈ l.drop (i+1):=by
 refine List.mem_iff_getElem?.2 ⟨j-(i+1),?_⟩
 rw [List.getElem?_drop,show i+1+(j-(i+1))=j by omega,hy]
theorem starts_ne {l:List Ev} (h:(qg l).2=true) {i j:Nat} {x y:Ev} (hij:i<j) (hx:l[i]? = some x) (hy:l[j]? = some y) (kx:x.kind=14) (ky:y.kind=14):x.k ≠ y.k:=by
 rw [← z5Q] at h
 obtain ⟨si,ti,h1,h2,h3⟩:=goP_at h pv0 hx
 have:=goP_gor h3 h2.pv y (z6P hij hy) ky
 rcases h2.gor with ⟨_,g1,g2⟩|⟨g,_⟩
 ·omega
 ·exact absurd kx g
theorem caps_eq {l:List Ev} (h:(qg l).2=true) {i j:Nat} {x y:Ev} (hij:i<j) (hx:l[i]? = some x) (hy:l[j]? = some y) (kx:zV x.kind=true) (ky:zV y.kind=true) (ho:x.obj=y.obj):x.n=y.n:=by
 rw [← z5Q] at h
 obtain ⟨si,ti,h1,h2,h3⟩:=goP_at h pv0 hx
 obtain ⟨⟨c,hc1,hc2⟩,_⟩:=h2.cap kx
 have:=goP_cap h3 h2.pv y (z6P hij hy) ky c (by rw [← ho];exact hc1)
 rw [← hc2,this]
end Go.Proofs.Ytdlgoofjechocaa
namespace Go.Proofs.Ytdlgoofjechocaa
open Go.RowKit Go.Sort Go.Maps
theorem Try.laidOut:laidOutB Try.prog=true:=by kernel_rfl
theorem z0r:Keyed Try.prog 3:=int_keyed (q := .i64) (by kernel_rfl)
def inI (a:Int):Prop := 0≤a∧a<9223372036854775808
theorem inI.wf {a:Int} (h:inI a):(Lit.int .i64 a).wf=true:=by
 obtain ⟨h0,h1⟩:=h
 simp only [Lit.wf,Bool.and_eq_true,decide_eq_true_eq,show IntKind.i64.min = -9223372036854775808 from rfl,show IntKind.i64.max=9223372036854775807 from rfl]
 omega
theorem z0l {a:Int} (h:inI a):keyOf Try.prog 3 (.int .i64 a)=some (.int .i64 a):=keyOf_int_mk (q := .i64) (by kernel_rfl) h.wf
def kyl (o p:Int):Lit := .string (keyBytes [.int .i64 o,.int .i64 p])
theorem key2_of {P : Program} {k : TypeId} {F : Array Field} (hS : P.underlying k = some (.struct F)) (hN : F.all (·.name != "_") = true) (hL : F.toList.map (fun f => (f.type, f.offset)) = [(3, 0), (3, 1)]) (hk : P.keyType k = true) (hc : P.cellsOf k = 2)
    (hu : P.underlying 3 = some (.int .i64)) (hci : P.cellsOf 3 = 1) (hz : 0 < P.types.size) {o p : Int} (ho : inI o) (hp : inI p) : keyOf P k (.agg #[.int .i64 o, .int .i64 p]) = some (kyl o p) := by
  have hf : (Value.agg #[.int .i64 o, .int .i64 p]).formed P k = true := by
    unfold Value.formed; rw [hS]; simp [hc]
  unfold keyOf
  rw [hS]
  simp only [hk, hf, Bool.and_self, if_true]
  obtain ⟨m, hm⟩ : ∃ m, P.types.size = m + 1 := ⟨P.types.size - 1, by omega⟩
  rw [hm]
  have hi : ∀ x : Int, (Lit.int .i64 x).wf = true → P.keyLits (m + 1) 3 [.int .i64 x] = some [.int .i64 x] := fun x hx => by
    unfold Program.keyLits
    rw [hu]
    simp [hx]
  rw [show m + 1 + 1 = (m + 1) + 1 from rfl]
  unfold Program.keyLits
  rw [hS]
  simp only [Value.cells, hN, hc, List.length_cons, List.length_nil, and_self, if_true]
  generalize F.toList = L at hL
  have hlen : L.length = 2 := by have := congrArg List.length hL; simpa using this
  match L, hlen with
  | [a, b], _ =>
    simp at hL
    obtain ⟨⟨h1, h2⟩, h3, h4⟩ := hL
    simp [h1, h2, h3, h4, hci, hi o ho.wf, hi p hp.wf, kyl]
noncomputable def flds (k:TypeId):Array Field:=match Try.prog.underlying k with|some (.struct f)=>f|_ => #[]
theorem z1f:Keyed Try.prog 104:=Keyed.of_law (deep_law_laid Try.laidOut (m := 2) (by omega) (of_decide_eq_true (by kernel_rfl)) (by kernel_rfl) (by rw [show Try.prog.underlying 104=some (.struct (flds 104)) by kernel_rfl]))
theorem z2q:Keyed Try.prog 85:=Keyed.of_law (deep_law_laid Try.laidOut (m := 2) (by omega) (of_decide_eq_true (by kernel_rfl)) (by kernel_rfl) (by rw [show Try.prog.underlying 85=some (.struct (flds 85)) by kernel_rfl]))
theorem z0V {o p:Int} (ho:inI o) (hp:inI p):keyOf Try.prog 104 (.agg #[.int .i64 o,.int .i64 p])=some (kyl o p) :=
 key2_of (F:=flds 104) (by kernel_rfl) (by kernel_rfl) (by kernel_rfl) (by kernel_rfl) (by kernel_rfl) (by kernel_rfl) (by kernel_rfl) (of_decide_eq_true (by kernel_rfl)) ho hp
theorem z2o {o p:Int} (ho:inI o) (hp:inI p):keyOf Try.prog 85 (.agg #[.int .i64 o,.int .i64 p])=some (kyl o p) :=
 key2_of (F:=flds 85) (by kernel_rfl) (by kernel_rfl) (by kernel_rfl) (by kernel_rfl) (by kernel_rfl) (by kernel_rfl) (by kernel_rfl) (of_decide_eq_true (by kernel_rfl)) ho hp
theorem kyl_inj {o p o' p' : Int} (ho:inI o) (hp:inI p) (ho' : inI o') (hp' : inI p') (h:kyl o p=kyl o' p'):o=o' ∧ p=p':=by
 have h1:=z0V ho hp
 rw [h] at h1
 have:=z1f.inj h1 (z0V ho' hp')
 simpa using this
noncomputable def unk (l:Lit):Option (Int × Int):=open Classical in if h : ∃ q:Int × Int,(inI q.1∧inI q.2)∧l=kyl q.1 q.2 then some h.choose else none
theorem unk_kyl {o p:Int} (ho:inI o) (hp:inI p):unk (kyl o p)=some (o,p):=by
 have h : ∃ q:Int × Int,(inI q.1∧inI q.2)∧kyl o p=kyl q.1 q.2:=⟨(o,p),⟨ho,hp⟩,rfl⟩
 unfold unk
 rw [dif_pos h]
 have h2:=h.choose_spec
 obtain ⟨e1,e2⟩:=kyl_inj ho hp h2.1.1 h2.1.2 h2.2
 rw [show h.choose=(h.choose.1,h.choose.2) from rfl,← e1,← e2]
theorem z8y {l:Lit} {q:Int × Int} (h:unk l=some q):l=kyl q.1 q.2:=by
 unfold unk at h
 split at h
 ·rename_i hx
  cases h
  exact hx.choose_spec.2
 ·cases h
noncomputable def plM {α:Type} (g : α→Value) (m:Int→Int→Option α) (l:Lit):Option Value:=(unk l).bind fun q=>(m q.1 q.2).map g
theorem z4T {α:Type} (g : α→Value) (m:Int→Int→Option α) {o p:Int} (ho:inI o) (hp:inI p):plM g m (kyl o p)=(m o p).map g:=by simp [plM,unk_kyl ho hp]
theorem z9G {α:Type} (g : α→Value) (m:Int→Int→Option α) {o p:Int} (ho:inI o) (hp:inI p) (v : α):updF (plM g m) (kyl o p) (some (g v))=plM g fun x y=>if x=o∧y=p then some v else m x y:=by
 funext l
 unfold updF
 by_cases e:l=kyl o p
 ·subst e
  simp [z4T g _ ho hp]
 ·rw [if_neg e]
  unfold plM
  cases hu:unk l with
  | none=>rfl
  | some q =>
   have hq:=z8y hu
   have hne : ¬(q.1=o∧q.2=p):=fun ⟨h1,h2⟩=>e (by rw [hq,h1,h2])
   simp [hne]
def inM {α:Type} (g : α→Value) (m:Int→Option α):Lit→Option Value
 | .int .i64 o=>(m o).map g
 | _=>none
theorem z7y {α:Type} (g : α→Value) (m:Int→Option α) (o:Int):inM g m (.int .i64 o)=(m o).map g:=rfl
theorem z9C {α:Type} (g : α→Value) (m:Int→Option α) (o:Int) (v : α):updF (inM g m) (.int .i64 o) (some (g v))=inM g fun x=>if x=o then some v else m x:=by
 funext l
 unfold updF
 by_cases e:l = .int .i64 o
 ·subst e
  simp [inM]
 ·rw [if_neg e]
  unfold inM
  split
  ·rename_i x
   have:x ≠ o:=fun h=>e (by rw [h])
   simp [this]
  ·rfl
end Go.Proofs.Ytdlgoofjechocaa
namespace Go.Proofs.Ytdlgoofjechocaa
open Go.RowKit Go.Sort
def z0W (l:List Ev) (x:Ev) (j:Nat):Bool := !(l.take j).any (fun e=>e.g==x.g)
def qR (l:List Ev) (x y:Ev) (i j:Nat):Bool := !(x.g != y.g) && !((l.take j).drop (i+1)).any (fun e=>e.g==x.g)
end Go.Proofs.Ytdlgoofjechocaa
namespace Go.Proofs.Ytdlgoofjechocaa
open Go.RowKit Go.Sort Go.Maps
theorem zm.upN (s:ASt) (m:Nat) (hm:s.N≤m):zm s { s with N:=m }:=fun L loc ac w hr =>
 ⟨loc,⟨hr.defers,hr.size,fun t ht=>(hr.fr t ht).mono hm (Kp.refl _ _) (fun _ _ h=>h) (fun _ _ _ h=>h),⟨fun t o ho=>let ⟨h1,u,h2,h3⟩:=hr.hp.at' t o ho;⟨Nat.lt_of_lt_of_le h1 hm,u,h2,h3.mono hm (Kp.refl _ _) (fun _ _ h=>h) (fun _ _ _ h=>h) (fun _ _=>rfl)⟩,hr.hp.dead,hr.hp.apart,hr.hp.inL,hr.hp.notL⟩⟩,Ext.refl _ _⟩
theorem zm.obj (s:ASt) (t:Nat) (o o' : AO) (hlk:s.hp.lookup t=some o) (hle : ∀ N D loc w u,OR N D loc w u o→OR N D loc w u o'):zm s { s with hp:=zM s.hp t o' }:=fun L loc ac w hr=>by
 refine ⟨loc,⟨hr.defers,hr.size,hr.fr,⟨fun k ob hk=>?_,fun k hk=>?_,hr.hp.apart,hr.hp.inL,hr.hp.notL⟩⟩,Ext.refl _ _⟩
 ·change (zM s.hp t _).lookup k=some ob at hk
  rw [zJ] at hk
  by_cases e1:k=t
  ·subst e1
   rw [if_pos rfl,hlk] at hk
   cases hk
   obtain ⟨h1,u,h2,h3⟩:=hr.hp.at' k _ hlk
   exact ⟨h1,u,h2,hle _ _ _ _ _ h3⟩
  ·rw [if_neg e1] at hk
   exact hr.hp.at' k ob hk
 ·change (zM s.hp t _).lookup k=none at hk
  rw [zJ] at hk
  by_cases e1:k=t
  ·subst e1;rw [if_pos rfl,hlk] at hk;cases hk
  ·rw [if_neg e1] at hk;exact hr.hp.dead k hk
theorem zm.hpe (s:ASt) (hp' : Hp) (h : ∀ t,hp'.lookup t=s.hp.lookup t):zm s { s with hp:=hp' }:=fun L loc ac w hr =>
 ⟨loc,⟨hr.defers,hr.size,hr.fr,⟨fun k o hk=>hr.hp.at' k o (by rw [← h k];exact hk),fun k hk=>hr.hp.dead k (by rw [← h k];exact hk),hr.hp.apart,hr.hp.inL,hr.hp.notL⟩⟩,Ext.refl _ _⟩
theorem OR.toA {N:Nat} {D:Nat→Prop} {loc:Nat→Option Value} {w:World} {u:Value} {e:Nat} {cs:List PV} (h:OR N D loc w u (.row e 1 (cs.map fun x => [x]))):OR N D loc w u (.arow e (cs.map .p)):=by
 obtain ⟨flat,h1,h2,h3,h4⟩:=h
 refine ⟨flat,by rw [List.length_map] at h1 ⊢;exact h1,fun j x hx=>?_,h4⟩
 simp only [List.getElem?_map,Option.map_eq_some_iff] at hx
 obtain ⟨c,hc,rfl⟩:=hx
 obtain ⟨v,h5,h6⟩:=h3 j [c] 0 c (by rw [List.getElem?_map,hc];rfl) rfl
 exact ⟨v,by simpa using h5,.p _ _ h6⟩
theorem OR.ofA {N:Nat} {D:Nat→Prop} {loc:Nat→Option Value} {w:World} {u:Value} {e:Nat} {cs:List PV} (h:OR N D loc w u (.arow e (cs.map .p))):OR N D loc w u (.row e 1 (cs.map fun x => [x])):=by
 obtain ⟨flat,h1,h3,h4⟩:=h
 refine ⟨flat,by rw [List.length_map] at h1 ⊢;exact h1,fun r hr=>?_,fun k r j x hk hx=>?_,h4⟩
 ·obtain ⟨c,_,rfl⟩:=List.mem_map.1 hr;rfl
 ·simp only [List.getElem?_map,Option.map_eq_some_iff] at hk
  obtain ⟨c,hc,rfl⟩:=hk
  cases j with
  | succ j=>simp at hx
  | zero =>
   cases hx
   obtain ⟨v,h5,h6⟩:=h3 k (.p x) (by rw [List.getElem?_map,hc];rfl)
   exact ⟨v,by simpa using h5,by cases h6 with|p _ _ h=>exact h⟩
theorem OR.toM {N:Nat} {D:Nat→Prop} {loc:Nat→Option Value} {w:World} {u:Value} {pin:Option Nat} {P:Program} {k n:Nat} (h:OR N D loc w u (.map pin P k n fun _=>none)):OR N D loc w u (.amap P k n (fun _=>none) none):=by
 obtain ⟨b,DD,rfl,h1,h2,_⟩:=h
 exact ⟨b,DD,fun _=>none,rfl,h1,h2,fun kl=>⟨fun x hx=>(by cases hx),fun _=>rfl⟩,trivial⟩
theorem zm.toA (s:ASt) (t e:Nat) (cs:List PV) (hlk:s.hp.lookup t=some (.row e 1 (cs.map fun x => [x]))):zm s { s with hp:=zM s.hp t (.arow e (cs.map .p)) }:=zm.obj s t _ _ hlk fun _ _ _ _ _ h=>h.toA
theorem zm.ofA (s:ASt) (t e:Nat) (cs:List PV) (hlk:s.hp.lookup t=some (.arow e (cs.map .p))):zm s { s with hp:=zM s.hp t (.row e 1 (cs.map fun x => [x])) }:=zm.obj s t _ _ hlk fun _ _ _ _ _ h=>h.ofA
theorem zm.toM (s:ASt) (t:Nat) (pin:Option Nat) (P:Program) (k n:Nat) (hlk:s.hp.lookup t=some (.map pin P k n fun _=>none)):zm s { s with hp:=zM s.hp t (.amap P k n (fun _=>none) none) }:=zm.obj s t _ _ hlk fun _ _ _ _ _ h=>h.toM
def mat (e n:Nat):Nat→List (List (List PV))→Hp
 | _,[] => []
 | b,r :: R=>(b,.row e n r) :: mat e n (b+1) R
theorem z1h (e n:Nat) : ∀ (R:List (List (List PV))) (b t:Nat),(mat e n b R).lookup t=if b≤t then (R[t-b]?).map (.row e n) else none
 | [],b,t=>by simp [mat]
 | r :: R,b,t=>by
  rw [mat]
  by_cases h:t=b
  ·subst h;rw [zt];simp
  ·rw [zl h,z1h e n R (b+1) t]
   by_cases h1:b≤t
   ·rw [if_pos (by omega),if_pos h1,show t-b=(t-(b+1))+1 by omega,List.getElem?_cons_succ]
   ·rw [if_neg (by omega),if_neg h1]
theorem z3y (e n b i:Nat) (R:List (List (List PV))):(mat e n b R).lookup (i+b)=(R[i]?).map (.row e n):=by
 rw [z1h,if_pos (by omega),Nat.add_sub_cancel]
theorem z4k (e n b t:Nat) (R:List (List (List PV))) (h:t<b):(mat e n b R).lookup t=none:=by
 rw [z1h,if_neg (by omega)]
theorem z7J (e n b t:Nat) (R:List (List (List PV))) (h:b+R.length≤t):(mat e n b R).lookup t=none:=by
 rw [z1h]
 split
 ·rw [List.getElem?_eq_none (by omega)];rfl
 ·rfl
theorem z2p (e n:Nat) : ∀ (R:List (List (List PV))) (b:Nat),∀ p ∈ mat e n b R,b≤p.1∧p.1<b+R.length ∧ ∃ r ∈ R,p.2 = .row e n r
 | [],b,p,h=>by cases h
 | r :: R,b,p,h=>by
  rcases List.mem_cons.1 h with h|h
  ·subst h;exact ⟨Nat.le_refl _,by simp,r,by simp,rfl⟩
  ·obtain ⟨h1,h2,q,h3,h4⟩:=z2p e n R (b+1) p h
   exact ⟨by omega,by simp;omega,q,by simp [h3],h4⟩
theorem z8v (e n:Nat) (F:AO→AO) (hF : ∀ r,F (.row e n r) = .row e n r) : ∀ (R:List (List (List PV))) (b:Nat),(mat e n b R).map (fun p=>(p.1,F p.2))=mat e n b R
 | [],b=>rfl
 | r :: R,b=>by rw [mat,List.map_cons,hF,z8v e n F hF R (b+1)]
theorem z4O (e n:Nat) (q:Nat→Bool) : ∀ (R:List (List (List PV))) (b:Nat),(∀ t,b≤t→t<b+R.length→q t=true)→(mat e n b R).filter (fun p=>q p.1)=mat e n b R
 | [],b,_=>rfl
 | r :: R,b,h=>by rw [mat,List.filter_cons,if_pos (h b (Nat.le_refl _) (by simp)),z4O e n q R (b+1) fun t h1 h2=>h t (by omega) (by simp at h2 ⊢;omega)]
theorem mat_set (e n:Nat) (r:List (List PV)) : ∀ (R:List (List (List PV))) (b i:Nat),zM (mat e n b R) (i+b) (.row e n r)=mat e n b (R.set i r)
 | [],b,i=>by simp [mat,zM]
 | q :: R,b,0=>by
  simp only [mat,zM,List.map_cons,Nat.zero_add,if_true,List.set_cons_zero]
  congr 1
  have:=z4O e n (fun _=>true) R (b+1) (fun _ _ _=>rfl)
  clear this
  have hk:=z2p e n R (b+1)
  rw [List.map_congr_left (g:=id) fun p hp=>by rw [if_neg (by have:=(hk p hp).1;omega)];rfl]
  simp
 | q :: R,b,i+1=>by
  rw [mat,List.set_cons_succ,mat,show i+1+b=i+(b+1) by omega,← mat_set e n r R (b+1) i]
  simp only [zM,List.map_cons]
  rw [if_neg (by omega)]
theorem z8r (e n:Nat) (r:List (List PV)) : ∀ (R:List (List (List PV))) (b:Nat),mat e n b (R ++ [r])=mat e n b R ++ [(b+R.length,.row e n r)]
 | [],b=>rfl
 | q :: R,b=>by
  rw [List.cons_append,mat,z8r e n r R (b+1),mat,List.cons_append,show b+1+R.length=b+(q :: R).length by simp;omega]
theorem z3V (e n b i:Nat) (r:List (List PV)) (R:List (List (List PV))):List.map (fun p=>if p.1=i+b then (i+b,.row e n r) else p) (mat e n b R)=mat e n b (R.set i r):=mat_set e n r R b i
theorem z5a (e n b t:Nat) (y:AV) (R:List (List (List PV))):List.map (fun p=>(p.1,AO.sub t y p.2)) (mat e n b R)=mat e n b R:=z8v e n (AO.sub t y) (fun _=>rfl) R b
theorem mat_keep (e n b m:Nat) (ks:List Nat) (R:List (List (List PV))):List.map (fun p=>(p.1,AO.keep m ks p.2)) (mat e n b R)=mat e n b R:=z8v e n (AO.keep m ks) (fun _=>rfl) R b
theorem z8n (e n b t t' : Nat) (R:List (List (List PV))):List.map (fun p=>(p.1,AO.ren t t' p.2)) (mat e n b R)=mat e n b R:=z8v e n (AO.ren t t') (fun _=>rfl) R b
theorem z7w (e n b t:Nat) (R:List (List (List PV))) (h:t<b∨b+R.length≤t):List.filter (fun p=>p.1 != t) (mat e n b R)=mat e n b R :=
 z4O e n (fun k=>k != t) R b fun k h1 h2=>by simp;omega
theorem z8C (e n b t t' : Nat) (R:List (List (List PV))) (h:t<b∨b+R.length≤t) (h' : t' < b∨b+R.length≤t'):List.filter (fun p=>p.1 != t&&p.1 != t') (mat e n b R)=mat e n b R :=
 z4O e n (fun k=>k != t&&k != t') R b fun k h1 h2=>by simp;omega
end Go.Proofs.Ytdlgoofjechocaa
namespace Go.Proofs.Ytdlgoofjechocaa
open Go.RowKit Go.Sort
def zA (y z:Ev):Bool:=((z.kind==4)||(z.kind==5))&&(z.obj==y.obj)&&(z.off==y.off)
def z2G (l:List Ev) (y:Ev) (i j:Nat):Bool := !((l.take j).drop (i+1)).any (zA y)
def z1v (l:List Ev) (x y:Ev) (j:Nat):Bool:=(x.kind==14)&&(x.k==y.g)&&z0W l y j
def qz (l:List Ev) (x y:Ev) (i j:Nat):Bool :=
 if x.kind==15 then (y.kind==18)&&(y.k==x.k)
 else if x.kind==17 then (y.kind==16)&&(y.k==IntKind.i64.wrap (x.k+x.n))
 else if x.kind==19 then y.kind==20
 else if x.kind==7 then (y.kind==6)||(y.kind==8)
 else if x.kind==9 then y.kind==6
 else if x.kind==10 then y.kind==11
 else if x.kind==12 then y.kind==13
 else if (x.kind==4)||(x.kind==5) then ((y.kind==3)||(y.kind==5))&&z2G l y i j
 else false
def zY (l:List Ev) (x y:Ev) (i j:Nat):Bool :=
 if qR l x y i j||z1v l x y j then true
 else if (x.obj != y.obj)||(x.off != y.off) then false
 else qz l x y i j
end Go.Proofs.Ytdlgoofjechocaa
namespace Go.Proofs.Ytdlgoofjechocaa
open Go.RowKit Go.Sort Go.Maps
theorem zm.frm (s:ASt) (fr' : List (Nat × AV)) (hp' : Hp) (m:Nat) (he : ∀ t,hp'.lookup t=s.hp.lookup t) (hfr : ∀ p ∈ fr',AVle (s.get p.1) p.2) (hok:(fr'.all fun p=>p.2.okB m)=true) (hhp : ∀ t o,hp'.lookup t=some o→t<m∧o.okB m=true):zm s ⟨fr',hp',s.n,m⟩:=fun L loc ac w hr=>by
 refine ⟨loc,⟨hr.defers,hr.size,fun t _=>?_,⟨fun t o ht=>?_,fun t ht=>hr.hp.dead t (by rw [← he t];exact ht),hr.hp.apart,hr.hp.inL,hr.hp.notL⟩⟩,Ext.refl _ _⟩
 ·unfold ASt.get
  cases ht:fr'.lookup t with
  | none=>exact .zH _
  | some x =>
   have hm:=z02 ht
   exact (hfr _ hm _ _ _ _ _ (hr.fr t trivial)).low (List.all_eq_true.1 hok _ hm)
 ·obtain ⟨_,u,h3,h4⟩:=hr.hp.at' t o (by rw [← he t];exact ht)
  obtain ⟨h5,h6⟩:=hhp t o ht
  exact ⟨h5,u,h3,h4.low h6⟩
def owns:Nat→Nat→List AV
 | _,0 => []
 | b,n+1 => .own b :: owns (b+1) n
theorem z08 : ∀ (n b:Nat),(owns b n).length=n
 | 0,b=>rfl
 | n+1,b=>by rw [owns,List.length_cons,z08 n]
theorem z1o : ∀ (n b i:Nat),i<n→(owns b n)[i]? = some (.own (i+b))
 | 0,b,i,h=>by omega
 | n+1,b,0,h=>by simp [owns]
 | n+1,b,i+1,h=>by rw [owns,List.getElem?_cons_succ,z1o n (b+1) i (by omega),show i+(b+1)=i+1+b by omega]
theorem zan : ∀ (n b:Nat),∀ x ∈ owns b n,∃ i,i<n∧x = .own (i+b)
 | 0,b,x,h=>by cases h
 | n+1,b,x,h=>by
  rcases List.mem_cons.1 h with h|h
  ·exact ⟨0,by omega,by rw [h,Nat.zero_add]⟩
  ·obtain ⟨i,h1,h2⟩:=zan n (b+1) x h
   exact ⟨i+1,by omega,by rw [h2];congr 1;omega⟩
theorem z4g : ∀ (n b:Nat),owns b (n+1)=owns b n ++ [.own (n+b)]
 | 0,b=>by simp [owns]
 | n+1,b=>by
  rw [owns,z4g n (b+1),owns,List.cons_append,show n+(b+1)=n+1+b by omega]
theorem z3O (t:Nat) (y:AV) : ∀ (n b:Nat),(t<b∨b+n≤t)→(owns b n).map (AV.sub t y)=owns b n
 | 0,b,_=>rfl
 | n+1,b,h=>by
  rw [owns,List.map_cons,z3O t y n (b+1) (by omega)]
  congr 1
  simp only [AV.sub]
  rw [if_neg (by omega)]
theorem z4L (t t' : Nat) : ∀ (n b:Nat),(t<b∨b+n≤t)→(t' < b∨b+n≤t')→(owns b n).map (AV.ren t t')=owns b n
 | 0,b,_,_=>rfl
 | n+1,b,h,h'=>by
  rw [owns,List.map_cons,z4L t t' n (b+1) (by omega) (by omega),AV.z07,if_neg (by omega),if_neg (by omega)]
theorem z3j (n b m:Nat) (h:b+n≤m):(owns b n).all (AV.okB m)=true:=by
 rw [List.all_eq_true]
 intro x hx
 obtain ⟨i,h1,rfl⟩:=zan n b x hx
 simp [AV.okB];omega
end Go.Proofs.Ytdlgoofjechocaa
namespace Go.Proofs.Ytdlgoofjechocaa
open Go.RowKit Go.Sort
def qF (l:List Ev) (i j:Nat):Bool:=match l[i]?,l[j]? with
 | some x,some y=>zY l x y i j
 | _,_=>false
def hbB (l:List Ev) (j a:Nat):Bool:=(List.range j).attach.any fun ⟨i,hi⟩=>qF l i j&&(a==i||(decide (a<i)&&hbB l i a))
termination_by j
decreasing_by exact List.mem_range.1 hi
def colB (l:List Ev) (j r a:Nat):Bool:=(List.range j).any fun i=>decide (r≤i)&&qF l i j&&(a==i||(decide (a<i)&&hbB l i a))
theorem z8G (l:List Ev) (j a:Nat):hbB l j a=colB l j 0 a:=by
 rw [hbB,colB]
 simp only [Nat.zero_le,decide_true,Bool.true_and]
 conv=>rhs;rw [← List.attach_map_subtype_val (List.range j)]
 rw [List.any_map];rfl
theorem z6f (l:List Ev) (j a:Nat) (h:hbB l j a=true):a<j:=by
 rw [z8G,colB,List.any_eq_true] at h
 obtain ⟨i,hi,h⟩:=h
 have:=List.mem_range.1 hi
 simp only [Bool.and_eq_true,Bool.or_eq_true,beq_iff_eq,decide_eq_true_eq] at h
 omega
theorem z6V {l:List Ev} {i j:Nat} {x y:Ev} (hx:l[i]? = some x) (hy:l[j]? = some y):qF l i j=zY l x y i j:=by simp [qF,hx,hy]
end Go.Proofs.Ytdlgoofjechocaa
namespace Go.Proofs.Ytdlgoofjechocaa
open Go.RowKit Go.Sort Go.Maps
structure Ed where
 f:Int
 t:Int
 k:Int
def edC (x:Ed):List PV := [.val (.int .i64 x.f),.val (.int .i64 x.t),.val (.int .i64 x.k)]
def pubK (k:Int):Bool := !((k==14)||(k==4)||(k==5)||(k==1)||(k==2)||(k==3))
def rdK (k:Int):Bool:=(k==3)||(k==5)
def aftB (a b:Int):Bool :=
 if a==7 then (b==6)||(b==8) else if a==9 then b==6 else if a==10 then b==11 else if a==12 then b==13 else if a==19 then b==20 else false
def z6K (f e:Ev):Bool:=(f.kind==15)&&(e.kind==18)&&(f.k==e.k)
def z7s (f e:Ev):Bool:=(f.kind==17)&&(e.kind==16)&&(e.k==IntKind.i64.wrap (f.k+e.n))
def z4c (f e:Ev):Bool:=z6K f e||z7s f e||aftB f.kind e.kind
def z0y (l:List Ev) (p:Ev→Bool):Nat→Option Nat
 | 0=>none
 | j+1=>if (l[j]?).any p then some j else z0y l p j
def z0T (g:Int) (d:Ev):Bool:=(d.kind==14)&&(d.k==g)
def wrAt (o f:Int) (z:Ev):Bool:=((z.kind==4)||(z.kind==5))&&(z.obj==o)&&(z.off==f)
def z5y (o f:Int) (z:Ev):Bool:=pubK z.kind&&(z.obj==o)&&(z.off==f)
def atL (l:List Ev) (o f:Int) (j:Nat):List Nat:=(List.range j).filter fun k=>(l[k]?).any (z5y o f)
def z4Q (l:List Ev) (e:Ev) (j:Nat):List Ed:=match z0y l (fun d=>d.g==e.g) j with
 | some i => [⟨i,j,0⟩]
 | none=>match z0y l (z0T e.g) j with
  | some i => [⟨i,j,e.kind⟩]
  | none => []
def z2g (l:List Ev) (e:Ev) (j:Nat) (is:List Nat):List Ed:=(is.filter fun i=>(l[i]?).any fun f=>z4c f e).map fun i:Nat=>⟨(i:Int),j,e.kind⟩
def z3K (l:List Ev) (e:Ev) (j:Nat):List Ed:=match z0y l (wrAt e.obj e.off) j with
 | some i=>if rdK e.kind then [⟨i,j,e.kind⟩] else []
 | none => []
def z5u (l:List Ev) (e:Ev) (j:Nat):List Ed:=z4Q l e j++z2g l e j (atL l e.obj e.off j)++z3K l e j
def z0Z (l:List Ev):Nat→List Ed
 | 0 => []
 | j+1=>z0Z l j++match l[j]? with
  | some e=>z5u l e j
  | none => []
theorem z3C {l:List Ev} {j:Nat} {e:Ev} (h:l[j]? = some e) (p:Ev→Bool):z0y l p (j+1)=if p e then some j else z0y l p j:=by
 rw [z0y,h];rfl
theorem z6s {l:List Ev} {p:Ev→Bool} : ∀ {j i:Nat},z0y l p j=some i→i<j∧(l[i]?).any p=true
 | 0,i,h=>by cases h
 | j+1,i,h=>by
  rw [z0y] at h
  split at h
  ·cases h;exact ⟨Nat.lt_succ_self _,by assumption⟩
  ·have:=z6s h;exact ⟨by omega,this.2⟩
theorem z3W {l:List Ev} {j:Nat} {e:Ev} (h:l[j]? = some e) (o f:Int):atL l o f (j+1)=atL l o f j++if z5y o f e then [j] else []:=by
 unfold atL
 rw [List.range_succ,List.filter_append]
 congr 1
 simp only [List.filter_cons,List.filter_nil,h,Option.any_some]
theorem atL_mem {l:List Ev} {o f:Int} {j i:Nat} (h:i ∈ atL l o f j):i<j∧(l[i]?).any (z5y o f)=true:=by
 unfold atL at h
 obtain ⟨h1,h2⟩:=List.mem_filter.1 h
 exact ⟨List.mem_range.1 h1,h2⟩
theorem z4J {l:List Ev} {j:Nat} {e:Ev} (h:l[j]? = some e):z0Z l (j+1)=z0Z l j++z5u l e j:=by
 rw [z0Z,h]
theorem zaX (l:List Ev) (e:Ev) (j i:Nat) (is:List Nat) (f:Ev) (h:l[i]? = some f):z2g l e j (i :: is)=(if z4c f e then [⟨i,j,e.kind⟩] else [])++z2g l e j is:=by
 unfold z2g
 rw [List.filter_cons,h,Option.any_some]
 split <;> simp
noncomputable def plA (m:Int→Int→Option AV) (l:Lit):Option AV:=(unk l).bind fun q=>m q.1 q.2
theorem z7G (m:Int→Int→Option AV) {o p:Int} (ho:inI o) (hp:inI p):plA m (kyl o p)=m o p:=by simp [plA,unk_kyl ho hp]
theorem plA_map (m:Int→Int→Option AV) (F:AV→AV):(fun l=>(plA m l).map F)=plA fun x y=>(m x y).map F:=by
 funext l
 unfold plA
 cases unk l with
 | none=>rfl
 | some q=>rfl
theorem plA_none:plA (fun _ _=>none)=fun _=>none:=by
 funext l
 unfold plA
 cases unk l <;> rfl
end Go.Proofs.Ytdlgoofjechocaa
namespace Go.Proofs.Ytdlgoofjechocaa
open Go.RowKit Go.Sort
def kindP (e:Ev):Bool :=
 if (e.kind==14)=true then e.obj==0&&e.off==0&&e.n==0&&decide (1≤e.k)&&decide (e.k<8)
 else if zV e.kind=true then e.off==0&&decide (e.n≤64)&&(e.k==0||z2A e.kind)
 else e.k==0&&e.n==0
theorem kindP_eq (e:Ev):z5R e=kindP e:=by
 unfold z5R kindP zV z2A
 by_cases h1:e.kind=14
 ·simp only [h1,beq_self_eq_true,reduceIte];rfl
 ·have h1' : (e.kind==14)=false:=by simpa using h1
  rw [h1']
  by_cases h2 : 15≤e.kind∧e.kind≤18
  ·have h3:(e.kind==15||e.kind==16||e.kind==17||e.kind==18)=true:=by simp;omega
   have h4:(decide (15≤e.kind)&&decide (e.kind≤20))=true:=by simp;omega
   have h5:(decide (15≤e.kind)&&decide (e.kind≤18))=true:=by simp;omega
   simp only [h3,h4,h5,Bool.false_eq_true,reduceIte,Bool.or_true,Bool.and_true]
  ·have h3:(e.kind==15||e.kind==16||e.kind==17||e.kind==18)=false:=by simp;omega
   have h5:(decide (15≤e.kind)&&decide (e.kind≤18))=false:=by simp;omega
   by_cases h4:e.kind=19∨e.kind=20
   ·have h6:(decide (15≤e.kind)&&decide (e.kind≤20))=true:=by simp;omega
    have h7:(e.kind==19||e.kind==20)=true:=by simpa using h4
    simp only [h3,h5,h6,h7,Bool.false_eq_true,reduceIte,Bool.or_false]
    cases (e.off==0) <;> cases (e.k==0) <;> simp
   ·have h6:(decide (15≤e.kind)&&decide (e.kind≤20))=false:=by simp;omega
    have h7:(e.kind==19||e.kind==20)=false:=by simpa using h4
    simp only [h3,h5,h6,h7,Bool.false_eq_true,reduceIte]
def begP (e:Ev):Bool := !(!z5b e.kind||decide (e.g<0)||decide (8≤e.g))
theorem begP_eq (e:Ev):z19 e=begP e:=by
 unfold z19 begP qy z5b
 rw [Bool.eq_iff_iff]
 simp
 omega
theorem flds_ok (e:Ev):((qU e).map fun x=>AV.int x).all (AV.okB 1)=true:=by simp [AV.okB]
theorem z9e (e:Ev):zu Try.prog 83 [evA e] (.bool (qh e)):=by
 simp only [evA,evC,List.map_cons,List.map_nil]
 refine zu.of Try.func83 rfl 101 rfl (by decide) (by simp [AV.okB]) ?_
 by_cases hh:begP e=true
 ·have h1:decide (e.g<0)=false:=by simp_all [begP]
  have h2:decide (8≤e.g)=false:=by simp_all [begP]
  have h3:z5b e.kind=true:=by simp_all [begP]
  repeat' (first|refine T.zi fun K hK=>?_|refine T.block ?_|(refine T.reg (by kernel_rfl) fun K' hK'=>?_;simp only [za,zh,List.map_cons,List.map_nil];(repeat' (first|(with_reducible refine WL.fin ?_;refine hK' _ ?_;clear hK' K')|((with_reducible refine WL.step fun K2 hK2=>?_);simp only [Nat.reduceEqDiff,Nat.reduceLT,Nat.reduceLeDiff,Nat.reduceAdd,reduceIte,reduceCtorEq,implies_true,Int.reduceEq,Int.reduceNe,Int.reduceLT,Int.reduceLE,Int.reduceSub,Int.reduceAdd,Nat.reduceMul,Nat.reduceMod,amz,tys,h1,h2,h3,Nat.reduceDiv];(repeat' (first|with_reducible (first|(refine hK2 _ ?_;clear hK2 K2)|refine And.intro ?_ ?_|intro hb)|((first|(with_reducible apply zg)|(with_reducible apply zk));case h=>exact CallV.plain (Ent.of Try.func89 (by kernel_rfl) rfl) (z95 _) (by simp [AV.okB]))))))))|refine T.skip ?_|refine T.exit ?_|refine T.ze rfl ?_|refine T.zf rfl ?_|refine T.cond rfl (fun hc=>?_) (fun hc=>?_)|refine T.ret ?_|simp only [zb,z8,reduceIte,Nat.reduceEqDiff]|((repeat ((fail_if_success (refine hK _ ?_));clear hK K));refine hK _ ?_;clear hK K))
  refine T.zI (fun k:Nat=>⟨[(0,evA e),(1,.ptr 0 0),(2,.bool false),(33,.agg ((qU e).map fun x => .int x)),(34,.int k)],[(0,.box 39 ((evC e).map .p))],101,1⟩) (fun k=>k≤7∧(qU e).all okF=((qU e).drop k).all okF) (fun k => 7-k) 0 ⟨Nat.zero_le _,rfl⟩ (by refine zm.of' rfl ?_;simp only [wks,reduceIte,Nat.reduceEqDiff,ASt.okB,AV.okB,Nat.reduceLT,implies_true,Int.natCast_zero,evA,evC,qU,List.map_cons,List.map_nil]) ?_
  rintro k ⟨hk,hn⟩ KL hKL
  simp only [evA,evC,List.map_cons,List.map_nil]
  by_cases hlt:k<7
  ·have hlen:k<(qU e).length:=hlt
   obtain ⟨x,hx⟩:=zF hlen
   have hd:decide ((k:Int)<7)=true:=by simp;omega
   have hk0:(k:Int)<((7:Nat):Int):=by omega
   have hxm:((qU e)[k*1]?)=some x:=by rw [Nat.mul_one];exact hx
   rw [drop_at hx,List.all_cons] at hn
   have hcont:okF x=true → ∀ s',zm s' _→KL s':=fun h s' hw=>hKL s' (k+1) hw ⟨by omega,by rw [hn,h];rfl⟩ (by omega)
   have hbad:okF x=false→qh e=false:=fun h=>by simp [qh,hn,h]
   repeat' (first|refine T.zi fun K hK=>?_|refine T.block ?_|(refine T.reg (by kernel_rfl) fun K' hK'=>?_;simp only [za,zh,List.map_cons,List.map_nil];(repeat' (first|(with_reducible refine WL.fin ?_;refine hK' _ ?_;clear hK' K')|((with_reducible refine WL.step fun K2 hK2=>?_);simp only [Nat.reduceEqDiff,Nat.reduceLT,Nat.reduceLeDiff,Nat.reduceAdd,reduceIte,reduceCtorEq,implies_true,Int.reduceEq,Int.reduceNe,Int.reduceLT,Int.reduceLE,Int.reduceSub,Int.reduceAdd,Nat.reduceMul,Nat.reduceMod,amz,tys,hxm,hd,hk0,Option.map_some];(repeat' with_reducible (first|(refine hK2 _ ?_;clear hK2 K2)|refine And.intro ?_ ?_|intro hb))))))|refine T.skip ?_|refine T.exit ?_|refine T.ze rfl ?_|refine T.zf rfl ?_|refine T.cond rfl (fun hc=>?_) (fun hc=>?_)|refine T.ret ?_|simp only [zb,z8,reduceIte,Nat.reduceEqDiff]|((repeat ((fail_if_success (refine hK _ ?_));clear hK K));refine hK _ ?_;clear hK K))
   all_goals first
    | ((refine zx.ret (.inr rfl) Try.results83 ?_;simp only [zw,zo,zn,Nat.reduceEqDiff,Nat.reduceLT,Nat.reduceLeDiff,Nat.reduceAdd,reduceIte,reduceCtorEq,implies_true,Int.reduceEq,Int.reduceNe,Int.reduceLT,Int.reduceLE,Int.reduceSub,Int.reduceAdd,Nat.reduceMul,Nat.reduceMod,amz,tys,]);rw [hbad];(focus (simp [okF, *];done)))
    | (refine hcont ?_ _ ?_;(focus (simp_all [okF];done));refine zm.of' rfl ?_;simp only [wks,reduceIte,Nat.reduceEqDiff,ASt.okB,AV.okB,Nat.reduceLT,implies_true,zq (show k<1152921504606846976 by omega),flds_ok,evA,evC,List.map_cons,List.map_nil];done)
  ·have hd:decide ((k:Int)<7)=false:=by simp;omega
   have hk7:k=7:=by omega
   have hn' : (qU e).all okF=true:=by rw [hn,hk7];rfl
   have hv:qh e=kindP e:=by simp [qh,begP_eq,hh,hn',← kindP_eq]
   rw [hv]
   repeat' (first|refine T.zi fun K hK=>?_|refine T.block ?_|(refine T.reg (by kernel_rfl) fun K' hK'=>?_;simp only [za,zh,List.map_cons,List.map_nil];(repeat' (first|(with_reducible refine WL.fin ?_;refine hK' _ ?_;clear hK' K')|((with_reducible refine WL.step fun K2 hK2=>?_);simp only [Nat.reduceEqDiff,Nat.reduceLT,Nat.reduceLeDiff,Nat.reduceAdd,reduceIte,reduceCtorEq,implies_true,Int.reduceEq,Int.reduceNe,Int.reduceLT,Int.reduceLE,Int.reduceSub,Int.reduceAdd,Nat.reduceMul,Nat.reduceMod,amz,tys,hd];(repeat' (first|with_reducible (first|(refine hK2 _ ?_;clear hK2 K2)|refine And.intro ?_ ?_|intro hb)|((first|(with_reducible apply zg)|(with_reducible apply zk));case h=>exact CallV.plain (Ent.of Try.func85 (by kernel_rfl) rfl) (z7B _) (by simp [AV.okB]))|((first|(with_reducible apply zg)|(with_reducible apply zk));case h=>exact CallV.plain (Ent.of Try.func90 (by kernel_rfl) rfl) (z7i _) (by simp [AV.okB]))))))))|refine T.skip ?_|refine T.exit ?_|refine T.ze rfl ?_|refine T.zf rfl ?_|refine T.cond rfl (fun hc=>?_) (fun hc=>?_)|refine T.ret ?_|simp only [zb,z8,reduceIte,Nat.reduceEqDiff]|((repeat ((fail_if_success (refine hK _ ?_));clear hK K));refine hK _ ?_;clear hK K))
   all_goals first
    | ((refine zx.ret (.inr rfl) Try.results83 ?_;simp only [zw,zo,zn,Nat.reduceEqDiff,Nat.reduceLT,Nat.reduceLeDiff,Nat.reduceAdd,reduceIte,reduceCtorEq,implies_true,Int.reduceEq,Int.reduceNe,Int.reduceLT,Int.reduceLE,Int.reduceSub,Int.reduceAdd,Nat.reduceMul,Nat.reduceMod,amz,tys,]);simp [kindP, *];done)
    | (exfalso;simp_all;done)
 ·have hh' : begP e=false:=by simpa using hh
  have hv:qh e=false:=by simp [qh,begP_eq,hh']
  rw [hv]
  repeat' (first|refine T.zi fun K hK=>?_|refine T.block ?_|(refine T.reg (by kernel_rfl) fun K' hK'=>?_;simp only [za,zh,List.map_cons,List.map_nil];(repeat' (first|(with_reducible refine WL.fin ?_;refine hK' _ ?_;clear hK' K')|((with_reducible refine WL.step fun K2 hK2=>?_);simp only [Nat.reduceEqDiff,Nat.reduceLT,Nat.reduceLeDiff,Nat.reduceAdd,reduceIte,reduceCtorEq,implies_true,Int.reduceEq,Int.reduceNe,Int.reduceLT,Int.reduceLE,Int.reduceSub,Int.reduceAdd,Nat.reduceMul,Nat.reduceMod,amz,tys];(repeat' (first|with_reducible (first|(refine hK2 _ ?_;clear hK2 K2)|refine And.intro ?_ ?_|intro hb)|((first|(with_reducible apply zg)|(with_reducible apply zk));case h=>exact CallV.plain (Ent.of Try.func89 (by kernel_rfl) rfl) (z95 _) (by simp [AV.okB]))))))))|refine T.skip ?_|refine T.exit ?_|refine T.ze rfl ?_|refine T.zf rfl ?_|refine T.cond rfl (fun hc=>?_) (fun hc=>?_)|refine T.ret ?_|simp only [zb,z8,reduceIte,Nat.reduceEqDiff]|((repeat ((fail_if_success (refine hK _ ?_));clear hK K));refine hK _ ?_;clear hK K))
  all_goals first
   | ((refine zx.ret (.inr rfl) Try.results83 ?_;simp only [zw,zo,zn,Nat.reduceEqDiff,Nat.reduceLT,Nat.reduceLeDiff,Nat.reduceAdd,reduceIte,reduceCtorEq,implies_true,Int.reduceEq,Int.reduceNe,Int.reduceLT,Int.reduceLE,Int.reduceSub,Int.reduceAdd,Nat.reduceMul,Nat.reduceMod,amz,tys,]);done)
   | (exfalso;simp_all [begP];done)
end Go.Proofs.Ytdlgoofjechocaa
namespace Go.Proofs.Ytdlgoofjechocaa
open Go.RowKit Go.Sort Go.Maps
def chV (c:Ch):Value := .agg #[.int .i64 c.cap,.int .i64 c.sent,.int .i64 c.recv,.bool c.closed]
def muV (m:Mu):Value := .agg #[.bool m.locked,.int .i64 m.readers]
def dnO (d:Int→Int→Bool) (x y:Int):Option Bool:=if d x y=true then some true else none
theorem cv_ch (c:Ch):cv (chV c) = .agg [.int c.cap,.int c.sent,.int c.recv,.bool c.closed]:=by simp [cv,chV,Value.oneCell',AV.int,AV.bool]
theorem cv_mu (m:Mu):cv (muV m) = .agg [.bool m.locked,.int m.readers]:=by simp [cv,muV,Value.oneCell',AV.int,AV.bool]
theorem ch_z (o:Option Ch):(o.map chV).getD (Value.agg { toList := [Value.int IntKind.i64 0,Value.int IntKind.i64 0,Value.int IntKind.i64 0,Value.bool false] })=chV (o.getD ch0):=by cases o <;> rfl
theorem mu_z (o:Option Mu):(o.map muV).getD (Value.agg { toList := [Value.bool false,Value.int IntKind.i64 0] })=muV (o.getD mu0):=by cases o <;> rfl
theorem dn_z (d:Int→Int→Bool) (x y:Int):cv (((dnO d x y).map Value.bool).getD (.bool false)) = .bool (d x y):=by unfold dnO;cases d x y <;> rfl
theorem z3X (m:Int→Option Ch) (o:Int) (c:Ch) {v:Value} (h:v=chV c):updF (inM chV m) (.int .i64 o) (some v)=inM chV fun x=>if x=o then some c else m x:=by subst h;exact z9C _ _ _ _
theorem z8z (m:Int→Int→Option Mu) {o f:Int} (ho:inI o) (hf:inI f) (c:Mu) {v:Value} (h:v=muV c):updF (plM muV m) (kyl o f) (some v)=plM muV fun x y=>if x=o∧y=f then some c else m x y:=by subst h;exact z9G _ _ ho hf _
theorem dn_upd (d:Int→Int→Bool) {o f:Int} (ho:inI o) (hf:inI f):updF (plM Value.bool (dnO d)) (kyl o f) (some (.bool true))=plM Value.bool (dnO fun x y=>decide (x=o∧y=f)||d x y):=by
 rw [z9G _ _ ho hf]
 congr 1
 funext x y
 unfold dnO
 by_cases h:x=o∧y=f
 ·simp [h]
 ·simp [h]
def gpC (g:Gp):List AV := [.p (.seq 1 (g.kinds.map fun x => [pI x])),.int g.obj,.int g.k,.int g.n,.int g.snd,.int g.rcv]
noncomputable def hpS (b:Nat) (s:Ps) (a1 a2 a3:Nat):Hp := [(0,.boxP (some b) 133 (.int s.ev :: .int s.gor :: .own 1 :: .own 2 :: .own 3 :: gpC s.op)),(1,.map none Try.prog 3 a1 (inM chV s.ch)),(2,.map none Try.prog 104 a2 (plM muV s.mu)),(3,.map none Try.prog 104 a3 (plM Value.bool (dnO s.dn)))]
structure Oki (e:Ev):Prop where
 o:inI e.obj
 f:inI e.off
theorem z8I {e:Ev} (h:qh e=true):Oki e:=by
 simp only [qh,qU,List.all_cons,okF,Bool.and_eq_true,Bool.not_eq_true',Bool.or_eq_false_iff,decide_eq_false_iff_not] at h
 obtain ⟨_,⟨⟨h1,h2⟩,⟨h3,h4⟩,_⟩,_⟩:=h
 exact ⟨⟨by omega,by omega⟩,by omega,by omega⟩
theorem FinM.ret {P:Program} {fn:Func} {N:Nat} {Q:Hp→AV→Prop} {r:AV} {s s' : ASt} {e:Exit} (he:e = .normal∨e = .ret) {rs:Array ResultVar} (hrs:fn.results=rs) (hw:zm s s') (hN:s'.N=N) (h:zw P s' rs.toList=some r) (hq:Q s'.hp r):FinM P fn N Q e s:=⟨he,s',hw,hN,r,by rw [hrs];exact h,hq⟩
def z8P (s:Ps):Bool:=decide (0<(s.op.kinds.length:Int))
theorem open_ok (b:Nat) (s:Ps) (a1 a2 a3:Nat):MemC Try.prog 77 4 (hpS b s a1 a2 a3) [.ptr 0 0] fun hp' r=>hp' = hpS b s a1 a2 a3∧r = .bool (z8P s):=by
 simp only [hpS,gpC]
 refine MemC.of Try.func77 rfl 14 rfl (by decide) ?_;simp only [z0X,zh]
 repeat' (first|refine T.zi fun K hK=>?_|refine T.block ?_|(refine T.reg (by kernel_rfl) fun K' hK'=>?_;simp only [za,zh,List.map_cons,List.map_nil];(repeat' (first|(with_reducible refine WL.fin ?_;refine hK' _ ?_;clear hK' K')|((with_reducible refine WL.step fun K2 hK2=>?_);simp only [simprocAttr,implies_true,amz,tys];(repeat' with_reducible (first|(refine hK2 _ ?_;clear hK2 K2)|refine And.intro ?_ ?_|intro hb))))))|refine T.skip ?_|refine T.exit ?_|refine T.ze rfl ?_|refine T.zf rfl ?_|refine T.cond rfl (fun hc=>?_) (fun hc=>?_)|refine T.ret ?_|simp only [zb,z8,reduceIte,Nat.reduceEqDiff]|((repeat ((fail_if_success (refine hK _ ?_));clear hK K));refine hK _ ?_;clear hK K))
 all_goals (refine FinM.ret (s':=⟨[(2,.bool (z8P s))],hpS b s a1 a2 a3,14,4⟩) (r := .bool (z8P s)) (.inr rfl) Try.results77 (by refine zm.of' rfl ?_;simp only [wks,reduceIte,Nat.reduceEqDiff,ASt.okB,AV.okB,Nat.reduceLT,implies_true,hpS,gpC,z8P]) rfl ?_ ?_;(focus (simp only [zw,zo,zn,simprocAttr,implies_true,amz,tys,];done)))
 all_goals (exact ⟨by simp only [hpS,gpC],rfl⟩)
theorem z5v (b:Nat) (s:Ps) (a1 a2 a3:Nat) (e:Ev) (he:Oki e) (h1:a1<1000000):MemC Try.prog 92 4 (hpS b s a1 a2 a3) [.ptr 0 0,evA e] fun hp' r=>hp' = hpS b (countP s e) (a1+1) a2 a3∧r = .tup []:=by
 simp only [hpS,gpC,evA,evC,List.map_cons,List.map_nil]
 refine MemC.of Try.func92 rfl 33 rfl (by decide) ?_;simp only [z0X,zh]
 repeat' (first|refine T.zi fun K hK=>?_|refine T.block ?_|(refine T.reg (by kernel_rfl) fun K' hK'=>?_;simp only [za,zh,List.map_cons,List.map_nil];(repeat' (first|(with_reducible refine WL.fin ?_;refine hK' _ ?_;clear hK' K')|((with_reducible refine WL.step fun K2 hK2=>?_);simp only [simprocAttr,implies_true,amz,tys];(repeat' with_reducible (first|(refine hK2 _ ?_;clear hK2 K2)|refine And.intro ?_ ?_|intro hb))))))|refine T.skip ?_|refine T.exit ?_|refine T.ze rfl ?_|refine T.zf rfl ?_|refine T.cond rfl (fun hc=>?_) (fun hc=>?_)|refine T.ret ?_|simp only [zb,z8,reduceIte,Nat.reduceEqDiff]|((repeat ((fail_if_success (refine hK _ ?_));clear hK K));refine hK _ ?_;clear hK K))
 obtain ⟨c,hc⟩ : ∃ c,(s.ch e.obj).getD ch0=c:=⟨_,rfl⟩
 have hm:a1<maxLen:=by unfold maxLen;omega
 refine T.comm [some (0,1),some (0,1),some (0,1),some (0,1),some (0,1),some (0,1),some (0,1),none,none] (by kernel_rfl) (by kernel_rfl) fun K' hK'=>?_;simp only [List.map_cons,List.map_nil,List.zip_cons_cons,List.zip_nil_left];(repeat' (first|(with_reducible refine WC.fin ?_;refine hK' _ ?_;clear hK' K')|((first|(with_reducible refine WC.zR fun K2 hK2=>?_)|(with_reducible refine WC.stepW fun K2 hK2=>?_));simp only [simprocAttr,implies_true,amz,WCg,WCv,WOw,qE,dav,Chk,List.filter_cons,List.filter_nil,bne_self_eq_false,Nat.reduceBneDiff,Bool.false_eq_true,tys,z0r,z0l he.o,z7y,ch_z,cv_ch,hc];(repeat' (first|(with_reducible refine hK2 _ _ ?_;clear hK2 K2)|with_reducible (first|(refine hK2 _ ?_;clear hK2 K2)|refine And.intro ?_ ?_|intro hb)|(with_reducible rfl)|((with_reducible show @Eq ASt _ _);rfl) )))));all_goals ((try simp only [zb,z8,reduceIte,Nat.reduceEqDiff]);(try ((repeat ((fail_if_success (refine hK _ ?_));clear hK K));refine hK _ ?_;clear hK K)))
 obtain ⟨d,hd⟩ : ∃ d,z0t c e.kind=d:=⟨_,rfl⟩
 have hq:countP s e=z0E s e.obj d:=by rw [countP,hc,hd]
 rw [hq]
 by_cases k1:(e.kind==15)=true
 ·have hd' : d = { c with sent:=wI (c.sent+1) }:=by rw [← hd,z0t,if_pos k1]
  have hu:=z3X s.ch e.obj d (v := .agg #[.int .i64 c.cap,.int .i64 (IntKind.i64.wrap (c.sent+1)),.int .i64 c.recv,.bool c.closed]) (by rw [hd'];rfl)
  repeat' (first|refine T.zi fun K hK=>?_|refine T.block ?_|(refine T.reg (by kernel_rfl) fun K' hK'=>?_;simp only [za,zh,List.map_cons,List.map_nil];(repeat' (first|(with_reducible refine WL.fin ?_;refine hK' _ ?_;clear hK' K')|((with_reducible refine WL.step fun K2 hK2=>?_);simp only [simprocAttr,implies_true,amz,tys,k1];(repeat' with_reducible (first|(refine hK2 _ ?_;clear hK2 K2)|refine And.intro ?_ ?_|intro hb))))))|refine T.skip ?_|refine T.exit ?_|refine T.ze rfl ?_|refine T.zf rfl ?_|refine T.cond rfl (fun hc=>?_) (fun hc=>?_)|refine T.ret ?_|simp only [zb,z8,reduceIte,Nat.reduceEqDiff]|((repeat ((fail_if_success (refine hK _ ?_));clear hK K));refine hK _ ?_;clear hK K))
  all_goals (refine T.drw 7 (by kernel_rfl) (by kernel_rfl) fun K' hK'=>?_;simp only [List.map_cons,List.map_nil];(repeat' (first|(with_reducible refine WL.fin ?_;refine hK' _ ?_;clear hK' K')|(with_reducible refine WD.fin ?_)|((with_reducible first|refine WL.step fun K2 hK2=>?_|refine WD.step fun K2 hK2=>?_);simp only [simprocAttr,implies_true,amz,tys,z0r,z0l he.o,hm];(repeat' with_reducible (first|(refine hK2 _ ?_;clear hK2 K2)|refine And.intro ?_ ?_|intro hb)))));all_goals ((try simp only [zb,z8,reduceIte,Nat.reduceEqDiff]);(try ((repeat ((fail_if_success (refine hK _ ?_));clear hK K));refine hK _ ?_;clear hK K))))
  all_goals (refine FinM.ret (s':=⟨[],hpS b (z0E s e.obj d) (a1+1) a2 a3,33,4⟩) (r := .tup []) (.inl rfl) Try.results92 (by refine zm.of' rfl ?_;simp only [wks,reduceIte,Nat.reduceEqDiff,ASt.okB,AV.okB,Nat.reduceLT,implies_true,hu,hpS,gpC,z0E]) rfl ?_ ?_;(focus (simp only [zw,zo,zn,simprocAttr,implies_true,amz,tys,];done)))
  all_goals (exact ⟨by simp only [hpS,gpC],rfl⟩)
 have k1' : (e.kind==15)=false:=by simpa using k1
 by_cases k2:(e.kind==17)=true
 ·have hd' : d = { c with recv:=wI (c.recv+1) }:=by rw [← hd,z0t,if_neg k1,if_pos k2]
  have hu:=z3X s.ch e.obj d (v := .agg #[.int .i64 c.cap,.int .i64 c.sent,.int .i64 (IntKind.i64.wrap (c.recv+1)),.bool c.closed]) (by rw [hd'];rfl)
  repeat' (first|refine T.zi fun K hK=>?_|refine T.block ?_|(refine T.reg (by kernel_rfl) fun K' hK'=>?_;simp only [za,zh,List.map_cons,List.map_nil];(repeat' (first|(with_reducible refine WL.fin ?_;refine hK' _ ?_;clear hK' K')|((with_reducible refine WL.step fun K2 hK2=>?_);simp only [simprocAttr,implies_true,amz,tys,k1',k2];(repeat' with_reducible (first|(refine hK2 _ ?_;clear hK2 K2)|refine And.intro ?_ ?_|intro hb))))))|refine T.skip ?_|refine T.exit ?_|refine T.ze rfl ?_|refine T.zf rfl ?_|refine T.cond rfl (fun hc=>?_) (fun hc=>?_)|refine T.ret ?_|simp only [zb,z8,reduceIte,Nat.reduceEqDiff]|((repeat ((fail_if_success (refine hK _ ?_));clear hK K));refine hK _ ?_;clear hK K))
  all_goals (refine T.drw 7 (by kernel_rfl) (by kernel_rfl) fun K' hK'=>?_;simp only [List.map_cons,List.map_nil];(repeat' (first|(with_reducible refine WL.fin ?_;refine hK' _ ?_;clear hK' K')|(with_reducible refine WD.fin ?_)|((with_reducible first|refine WL.step fun K2 hK2=>?_|refine WD.step fun K2 hK2=>?_);simp only [simprocAttr,implies_true,amz,tys,z0r,z0l he.o,hm];(repeat' with_reducible (first|(refine hK2 _ ?_;clear hK2 K2)|refine And.intro ?_ ?_|intro hb)))));all_goals ((try simp only [zb,z8,reduceIte,Nat.reduceEqDiff]);(try ((repeat ((fail_if_success (refine hK _ ?_));clear hK K));refine hK _ ?_;clear hK K))))
  all_goals (refine FinM.ret (s':=⟨[],hpS b (z0E s e.obj d) (a1+1) a2 a3,33,4⟩) (r := .tup []) (.inl rfl) Try.results92 (by refine zm.of' rfl ?_;simp only [wks,reduceIte,Nat.reduceEqDiff,ASt.okB,AV.okB,Nat.reduceLT,implies_true,hu,hpS,gpC,z0E]) rfl ?_ ?_;(focus (simp only [zw,zo,zn,simprocAttr,implies_true,amz,tys,];done)))
  all_goals (exact ⟨by simp only [hpS,gpC],rfl⟩)
 ·have hd' : d=c:=by rw [← hd,z0t,if_neg k1,if_neg k2]
  have k2' : (e.kind==17)=false:=by simpa using k2
  have hu:=z3X s.ch e.obj d (v := .agg #[.int .i64 c.cap,.int .i64 c.sent,.int .i64 c.recv,.bool c.closed]) (by rw [hd'];rfl)
  repeat' (first|refine T.zi fun K hK=>?_|refine T.block ?_|(refine T.reg (by kernel_rfl) fun K' hK'=>?_;simp only [za,zh,List.map_cons,List.map_nil];(repeat' (first|(with_reducible refine WL.fin ?_;refine hK' _ ?_;clear hK' K')|((with_reducible refine WL.step fun K2 hK2=>?_);simp only [simprocAttr,implies_true,amz,tys,k1',k2'];(repeat' with_reducible (first|(refine hK2 _ ?_;clear hK2 K2)|refine And.intro ?_ ?_|intro hb))))))|refine T.skip ?_|refine T.exit ?_|refine T.ze rfl ?_|refine T.zf rfl ?_|refine T.cond rfl (fun hc=>?_) (fun hc=>?_)|refine T.ret ?_|simp only [zb,z8,reduceIte,Nat.reduceEqDiff]|((repeat ((fail_if_success (refine hK _ ?_));clear hK K));refine hK _ ?_;clear hK K))
  all_goals (refine T.drw 7 (by kernel_rfl) (by kernel_rfl) fun K' hK'=>?_;simp only [List.map_cons,List.map_nil];(repeat' (first|(with_reducible refine WL.fin ?_;refine hK' _ ?_;clear hK' K')|(with_reducible refine WD.fin ?_)|((with_reducible first|refine WL.step fun K2 hK2=>?_|refine WD.step fun K2 hK2=>?_);simp only [simprocAttr,implies_true,amz,tys,z0r,z0l he.o,hm];(repeat' with_reducible (first|(refine hK2 _ ?_;clear hK2 K2)|refine And.intro ?_ ?_|intro hb)))));all_goals ((try simp only [zb,z8,reduceIte,Nat.reduceEqDiff]);(try ((repeat ((fail_if_success (refine hK _ ?_));clear hK K));refine hK _ ?_;clear hK K))))
  all_goals (refine FinM.ret (s':=⟨[],hpS b (z0E s e.obj d) (a1+1) a2 a3,33,4⟩) (r := .tup []) (.inl rfl) Try.results92 (by refine zm.of' rfl ?_;simp only [wks,reduceIte,Nat.reduceEqDiff,ASt.okB,AV.okB,Nat.reduceLT,implies_true,hu,hpS,gpC,z0E]) rfl ?_ ?_;(focus (simp only [zw,zo,zn,simprocAttr,implies_true,amz,tys,];done)))
  all_goals (exact ⟨by simp only [hpS,gpC],rfl⟩)
theorem AO.z1t (t t' : Nat) (pin:Option Nat) (ty:TypeId) (cs:List AV):AO.ren t t' (.boxP pin ty cs) = .boxP pin ty (cs.map (AV.ren t t')):=rfl
theorem AO.z0D (t t' : Nat) (e n:Nat) (rows:List (List PV)):AO.ren t t' (.row e n rows) = .row e n rows:=rfl
theorem AO.z1E (t t' : Nat) (pin:Option Nat) (P:Program) (k n:Nat) (f:Lit→Option Value):AO.ren t t' (.map pin P k n f) = .map pin P k n f:=rfl
theorem AO.z1K (t t' : Nat) (u:Value) (ob:Obj):AO.ren t t' (.raw u ob) = .raw u ob:=rfl
theorem AO.cut_box (t m:Nat) (pin:Option Nat) (ty:TypeId) (cs:List AV):AO.cut t m (.boxP pin ty cs) = .boxP pin ty (cs.map (AV.cut t m)):=rfl
theorem AO.cut_row (t m:Nat) (e n:Nat) (rows:List (List PV)):AO.cut t m (.row e n rows) = .row e n rows:=rfl
theorem AO.z3g (n:Nat) (ks:List Nat) (pin:Option Nat) (ty:TypeId) (cs:List AV):AO.keep n ks (.boxP pin ty cs) = .boxP pin ty (cs.map (AV.keep n ks)):=rfl
theorem AO.keep_map (n:Nat) (ks:List Nat) (pin:Option Nat) (P:Program) (k m:Nat) (f:Lit→Option Value):AO.keep n ks (.map pin P k m f) = .map pin P k m f:=rfl
theorem AO.z5X (b:Nat) (ty:TypeId) (cs:List AV):AO.handle (.boxP (some b) ty cs)=some (.pointer (some ⟨b,0,none⟩)):=rfl
theorem z8d {α:Type} (g : α→Value):inM g (fun _=>none)=fun _=>none:=by funext l;unfold inM;split <;> rfl
theorem zaf {α:Type} (g : α→Value):plM g (fun _ _=>none)=fun _=>none:=by funext l;unfold plM;cases unk l <;> rfl
theorem dnO_none:dnO (fun _ _=>false)=fun _ _=>none:=rfl
theorem zm.boxle (s:ASt) (t:Nat) (pin:Option Nat) (ty:TypeId) (cs cs' : List AV) (hlk:s.hp.lookup t=some (.boxP pin ty cs)) (hl:cs'.length=cs.length) (hle : ∀ (j:Nat) x',cs'[j]? = some x' → ∃ x,cs[j]? = some x∧AVle x x'):zm s { s with hp:=zM s.hp t (.boxP pin ty cs') }:=fun L loc ac w hr=>by
 refine ⟨loc,⟨hr.defers,hr.size,hr.fr,⟨fun k o hk=>?_,fun k hk=>?_,hr.hp.apart,hr.hp.inL,hr.hp.notL⟩⟩,Ext.refl _ _⟩
 ·change (zM s.hp t _).lookup k=some o at hk
  rw [zJ] at hk
  by_cases e1:k=t
  ·subst e1
   rw [if_pos rfl,hlk] at hk
   cases hk
   obtain ⟨h1,u,h2,b,arr,h3,h4,h5,h6,h7,h8⟩:=hr.hp.at' k _ hlk
   refine ⟨h1,u,h2,b,arr,h3,h4,by rw [h5,hl],fun j x hx=>?_,h7,h8⟩
   obtain ⟨y,hy,hyx⟩:=hle j x hx
   exact hyx _ _ _ _ _ (h6 j y hy)
  ·rw [if_neg e1] at hk
   exact hr.hp.at' k o hk
 ·change (zM s.hp t _).lookup k=none at hk
  rw [zJ] at hk
  by_cases e1:k=t
  ·subst e1;rw [if_pos rfl,hlk] at hk;cases hk
  ·rw [if_neg e1] at hk;exact hr.hp.dead k hk
theorem newS_ok:MemC Try.prog 75 4 [] [] fun hp' r => ∃ b,hp' = hpS b ps0 0 0 0∧r = .ptr 0 0:=by
 refine MemC.of Try.func75 rfl 6 rfl (by decide) ?_;simp only [z0X,zh]
 repeat' (first|refine T.zi fun K hK=>?_|refine T.block ?_|refine T.skip ?_|refine T.exit ?_|refine T.ze rfl ?_|refine T.zf rfl ?_|refine T.cond rfl (fun hc=>?_) (fun hc=>?_)|refine T.ret ?_|simp only [zb,z8,reduceIte,Nat.reduceEqDiff]|((repeat ((fail_if_success (refine hK _ ?_));clear hK K));refine hK _ ?_;clear hK K))
 (refine T.reg (by kernel_rfl) fun K' hK'=>?_;simp only [za,zh,List.map_cons,List.map_nil];(repeat' (first|(with_reducible refine WL.fin ?_;refine hK' _ ?_;clear hK' K')|((with_reducible refine WL.step fun K2 hK2=>?_);simp only [simprocAttr,implies_true,amz,tys];(repeat' with_reducible (first|(refine hK2 _ ?_;clear hK2 K2)|refine And.intro ?_ ?_|intro hb)))));all_goals ((try simp only [zb,z8,reduceIte,Nat.reduceEqDiff]);(try ((repeat ((fail_if_success (refine hK _ ?_));clear hK K));refine hK _ ?_;clear hK K))))
 repeat' (first|refine T.zi fun K hK=>?_|refine T.block ?_|refine T.skip ?_|refine T.exit ?_|refine T.ze rfl ?_|refine T.zf rfl ?_|refine T.cond rfl (fun hc=>?_) (fun hc=>?_)|refine T.ret ?_|simp only [zb,z8,reduceIte,Nat.reduceEqDiff]|((repeat ((fail_if_success (refine hK _ ?_));clear hK K));refine hK _ ?_;clear hK K))
 (refine T.reg (by kernel_rfl) fun K' hK'=>?_;simp only [za,zh,List.map_cons,List.map_nil];(repeat' (first|(with_reducible refine WL.fin ?_;refine hK' _ ?_;clear hK' K')|((with_reducible refine WL.step fun K2 hK2=>?_);simp only [simprocAttr,implies_true,amz,tys];(repeat' with_reducible (first|(refine hK2 _ ?_;clear hK2 K2)|refine And.intro ?_ ?_|intro hb)))));all_goals ((try simp only [zb,z8,reduceIte,Nat.reduceEqDiff]);(try ((repeat ((fail_if_success (refine hK _ ?_));clear hK K));refine hK _ ?_;clear hK K))))
 refine T.weak (zm.ren _ 4 1) ?_;simp only [ASt.ren,AV.z07,AV.z0O,AV.z0B,AV.z1g,AV.z3b,AV.z1d,AV.z0v,AV.z0u,AV.z2u,AV.z1i,AV.z1e,AO.z1t,AO.z0D,AO.z1E,AO.z1K,List.map_cons,List.map_nil,List.filter_cons,List.filter_nil,zC,qB,reduceIte,Nat.reduceEqDiff,Nat.reduceLT,Nat.reduceBneDiff,bne_self_eq_false,Bool.and_true,Bool.and_false,Bool.true_and,Bool.false_and,Bool.and_self,Bool.false_eq_true,ne_eq,not_false_eq_true,not_true_eq_false,and_self,and_true,true_and,and_false,]
 refine T.weak (zm.ren _ 5 2) ?_;simp only [ASt.ren,AV.z07,AV.z0O,AV.z0B,AV.z1g,AV.z3b,AV.z1d,AV.z0v,AV.z0u,AV.z2u,AV.z1i,AV.z1e,AO.z1t,AO.z0D,AO.z1E,AO.z1K,List.map_cons,List.map_nil,List.filter_cons,List.filter_nil,zC,qB,reduceIte,Nat.reduceEqDiff,Nat.reduceLT,Nat.reduceBneDiff,bne_self_eq_false,Bool.and_true,Bool.and_false,Bool.true_and,Bool.false_and,Bool.and_self,Bool.false_eq_true,ne_eq,not_false_eq_true,not_true_eq_false,and_self,and_true,true_and,and_false,]
 refine T.weak (zm.ren _ 6 3) ?_;simp only [ASt.ren,AV.z07,AV.z0O,AV.z0B,AV.z1g,AV.z3b,AV.z1d,AV.z0v,AV.z0u,AV.z2u,AV.z1i,AV.z1e,AO.z1t,AO.z0D,AO.z1E,AO.z1K,List.map_cons,List.map_nil,List.filter_cons,List.filter_nil,zC,qB,reduceIte,Nat.reduceEqDiff,Nat.reduceLT,Nat.reduceBneDiff,bne_self_eq_false,Bool.and_true,Bool.and_false,Bool.true_and,Bool.false_and,Bool.and_self,Bool.false_eq_true,ne_eq,not_false_eq_true,not_true_eq_false,and_self,and_true,true_and,and_false,]
 refine T.weak (zm.ren _ 7 0) ?_;simp only [ASt.ren,AV.z07,AV.z0O,AV.z0B,AV.z1g,AV.z3b,AV.z1d,AV.z0v,AV.z0u,AV.z2u,AV.z1i,AV.z1e,AO.z1t,AO.z0D,AO.z1E,AO.z1K,List.map_cons,List.map_nil,List.filter_cons,List.filter_nil,zC,qB,reduceIte,Nat.reduceEqDiff,Nat.reduceLT,Nat.reduceBneDiff,bne_self_eq_false,Bool.and_true,Bool.and_false,Bool.true_and,Bool.false_and,Bool.and_self,Bool.false_eq_true,ne_eq,not_false_eq_true,not_true_eq_false,and_self,and_true,true_and,and_false,]
 refine T.pin 0 _ rfl fun b=>?_;simp only [zM,AO.pin,List.map_cons,List.map_nil,reduceIte,Nat.reduceEqDiff]
 refine T.weak (zm.boxle _ 0 (some b) 133 _ [.int 0,.int 1,.own 1,.own 2,.own 3,.p (.seq 1 []),.int 0,.int 0,.int 0,.int 0,.int 0] rfl rfl fun j x hx=>?_) ?_
 ·rcases j with _|_|_|_|_|_|_|_|_|_|_|j <;> cases hx <;> first|exact ⟨_,rfl,AVle.refl _⟩|exact ⟨_,rfl,AVle.nil _⟩
 simp only [zM,List.map_cons,List.map_nil,reduceIte,Nat.reduceEqDiff]
 refine T.ret ?_
 refine FinM.ret (s':=⟨[(0,.ptr 0 0)],hpS b ps0 0 0 0,6,4⟩) (r := .ptr 0 0) (.inr rfl) Try.results75 (by refine zm.of' rfl ?_;simp only [wks,reduceIte,Nat.reduceEqDiff,ASt.okB,AV.okB,Nat.reduceLT,implies_true,hpS,gpC,ps0,gp0,List.map_nil,AO.pin,z8d,zaf,dnO_none]) rfl ?_ ?_;(focus (simp only [zw,zo,zn,simprocAttr,implies_true,amz,tys,];done))
 exact ⟨b,rfl,rfl⟩
end Go.Proofs.Ytdlgoofjechocaa
namespace Go.Proofs.Ytdlgoofjechocaa
open Go.RowKit Go.Sort
theorem AO.z3R (t t' : Nat) (e:Nat) (cs:List AV):AO.ren t t' (.arow e cs) = .arow e (cs.map (AV.ren t t')):=rfl
abbrev nilV:Value := .slice none 0 0
end Go.Proofs.Ytdlgoofjechocaa
namespace Go.Proofs.Ytdlgoofjechocaa
open Go.RowKit Go.Sort Go.Maps
theorem z0e {α:Type} {f : α → α} {l:List α} (h : ∀ x ∈ l,f x=x):l.map f=l:=by
 rw [List.map_congr_left (g:=id) h,List.map_id]
theorem AV.z4V {t n:Nat} (y:AV) (h:n≤t) : ∀ x:AV,x.okB n=true→AV.sub t y x=x
 | .own k,hx=>by simp only [AV.okB,decide_eq_true_eq] at hx;simp only [AV.sub];rw [if_neg (by omega)]
 | .pre k m,hx=>by simp only [AV.okB,decide_eq_true_eq] at hx;simp only [AV.sub];rw [if_neg (by omega)]
 | .suf k j m,hx=>by simp only [AV.okB,decide_eq_true_eq] at hx;simp only [AV.sub];rw [if_neg (by omega)]
 | .ptr k m,hx=>by simp only [AV.okB,decide_eq_true_eq] at hx;simp only [AV.sub];rw [if_neg (by omega)]
 | .rptr k m i j,hx=>by simp only [AV.okB,decide_eq_true_eq] at hx;simp only [AV.sub];rw [if_neg (by omega)]
 | .fn f cs,hx=>by
  rw [AV.qJ,List.all_eq_true] at hx
  rw [AV.z2H,z0e fun c hc=>AV.z4V y h c (hx c hc)]
 | .agg cs,hx=>by
  rw [AV.qx,List.all_eq_true] at hx
  rw [AV.z1s,z0e fun c hc=>AV.z4V y h c (hx c hc)]
 | .tup cs,hx=>by
  rw [AV.qM,List.all_eq_true] at hx
  rw [AV.z1j,z0e fun c hc=>AV.z4V y h c (hx c hc)]
 | .p x,_=>by simp only [AV.sub]
 | .elt r k,_=>by simp only [AV.sub]
 | .cap0,_=>by simp only [AV.sub]
 | .zH,_=>by simp only [AV.sub]
termination_by x=>SizeOf.sizeOf x
decreasing_by all_goals (have:=List.sizeOf_lt_of_mem hc;simp;omega)
theorem AV.z5N {t t' n:Nat} (h:n≤t) (h' : n≤t') : ∀ x:AV,x.okB n=true→AV.ren t t' x=x
 | .own k,hx=>by simp only [AV.okB,decide_eq_true_eq] at hx;rw [AV.z07,if_neg (by omega),if_neg (by omega)]
 | .suf k j m,hx=>by simp only [AV.okB,decide_eq_true_eq] at hx;rw [AV.ren_suf,if_neg (by omega),if_neg (by omega)]
 | .pre k m,hx=>by simp only [AV.okB,decide_eq_true_eq] at hx;rw [AV.z1g,if_neg (by omega),if_neg (by omega)]
 | .ptr k m,hx=>by simp only [AV.okB,decide_eq_true_eq] at hx;rw [AV.z0O,if_neg (by omega),if_neg (by omega)]
 | .rptr k m i j,hx=>by simp only [AV.okB,decide_eq_true_eq] at hx;rw [AV.z0B,if_neg (by omega),if_neg (by omega)]
 | .fn f cs,hx=>by
  rw [AV.qJ,List.all_eq_true] at hx
  rw [AV.z2u,z0e fun c hc=>AV.z5N h h' c (hx c hc)]
 | .agg cs,hx=>by
  rw [AV.qx,List.all_eq_true] at hx
  rw [AV.z1i,z0e fun c hc=>AV.z5N h h' c (hx c hc)]
 | .tup cs,hx=>by
  rw [AV.qM,List.all_eq_true] at hx
  rw [AV.z1e,z0e fun c hc=>AV.z5N h h' c (hx c hc)]
 | .p x,_=>by rw [AV.z3b]
 | .elt r k,_=>by rw [AV.z1d]
 | .cap0,_=>by rw [AV.z0u]
 | .zH,_=>by rw [AV.z0v]
termination_by x=>SizeOf.sizeOf x
decreasing_by all_goals (have:=List.sizeOf_lt_of_mem hc;simp;omega)
theorem AO.z4V {t n:Nat} (y:AV) (h:n≤t) {o:AO} (ho:o.okB n=true):o.sub t y=o:=by
 cases o with
 | boxP pin ty cs=>rw [AO.qC,List.all_eq_true] at ho;rw [AO.z1u,z0e fun c hc=>AV.z4V y h c (ho c hc)]
 | row e m rows=>rfl
 | map pin P k m f=>rfl
 | raw u ob=>rfl
 | lrec l sp fr =>
  rw [AO.z5M,List.all_eq_true] at ho
  rw [AO.z0R,z0e fun c hc=>by rw [AV.z4V y h c.2 (ho c hc)]]
 | amap P k m f q =>
  simp only [AO.okB,decide_eq_true_eq] at ho
  rw [AO.zaz]
  congr 1
  funext l
  cases hf:f l with
  | none=>rfl
  | some x=>rw [Option.map_some,AV.z4V y h x (ho l x hf)]
 | arow e cs=>rw [AO.z6t,List.all_eq_true] at ho;rw [AO.z3f,z0e fun c hc=>AV.z4V y h c (ho c hc)]
theorem AO.z5N {t t' n:Nat} (h:n≤t) (h' : n≤t') {o:AO} (ho:o.okB n=true):o.ren t t' = o:=by
 cases o with
 | boxP pin ty cs=>rw [AO.qC,List.all_eq_true] at ho;simp only [AO.ren];rw [z0e fun c hc=>AV.z5N h h' c (ho c hc)]
 | row e m rows=>rfl
 | map pin P k m f=>rfl
 | raw u ob=>rfl
 | lrec l sp fr =>
  rw [AO.z5M,List.all_eq_true] at ho
  simp only [AO.ren]
  rw [z0e fun c hc=>by rw [AV.z5N h h' c.2 (ho c hc)]]
 | amap P k m f q =>
  simp only [AO.okB,decide_eq_true_eq] at ho
  simp only [AO.ren]
  congr 1
  funext l
  cases hf:f l with
  | none=>rfl
  | some x=>rw [Option.map_some,AV.z5N h h' x (ho l x hf)]
 | arow e cs=>rw [AO.z6t,List.all_eq_true] at ho;simp only [AO.ren];rw [z0e fun c hc=>AV.z5N h h' c (ho c hc)]
structure HpOk (n:Nat) (hp:Hp):Prop where
 ok : ∀ p ∈ hp,p.1<n∧p.2.okB n=true
 one : ∀ p ∈ hp,hp.lookup p.1=some p.2
namespace HpOk
variable {n:Nat} {hp:Hp} (h:HpOk n hp)
include h
theorem none {t:Nat} (ht:n≤t):hp.lookup t=Option.none:=by
 cases hl:hp.lookup t with
 | none=>rfl
 | some o=>have:=(h.ok _ (z02 hl)).1;simp only at this;omega
theorem at' {t:Nat} {o:AO} (hl:hp.lookup t=some o):t<n∧o.okB n=true:=h.ok _ (z02 hl)
theorem sub {t:Nat} (y:AV) (ht:n≤t):List.map (fun p=>(p.1,AO.sub t y p.2)) hp=hp:=z0e fun p hp=>by rw [AO.z4V y ht (h.ok p hp).2]
theorem ren {t t' : Nat} (ht:n≤t) (ht' : n≤t'):List.map (fun p=>(p.1,AO.ren t t' p.2)) hp=hp:=z0e fun p hp=>by rw [AO.z5N ht ht' (h.ok p hp).2]
theorem set {t:Nat} (o:AO) (ht:n≤t):List.map (fun p=>if p.1=t then (t,o) else p) hp=hp:=z0e fun p hp=>by rw [if_neg];have:=(h.ok p hp).1;omega
theorem ne2 {t t' : Nat} (ht:n≤t) (ht' : n≤t'):List.filter (fun p=>p.1 != t&&p.1 != t') hp=hp:=List.filter_eq_self.2 fun p hp=>by have:=(h.ok p hp).1;simp;omega
theorem le:List.filter (fun p=>decide (n≤p.1)) hp = []:=List.filter_eq_nil_iff.2 fun p hp=>by have:=(h.ok p hp).1;simp;omega
theorem all:hp.all (fun p=>decide (p.1<n)&&p.2.okB n)=true:=List.all_eq_true.2 fun p hp=>by have:=h.ok p hp;simp [this.1,this.2]
end HpOk
theorem z09 (a b:Hp) (t:Nat):List.lookup t (a++b)=(a.lookup t).or (b.lookup t):=z4P a b t
theorem z6S.of {P:Program} {fr:List (Nat × AV)} {hp:Hp} {n N y:Nat} {xs:List AV} {d:Option Nat} {K:ASt→Prop} (m:Nat) (A H H' : Hp) (l:Nat) (sp:LSpec) (fr0:List (Nat × AV)) (hs:hp=A++H) (hA : ∀ p ∈ A,m≤p.1) (hAk:A.map (fun p=>(p.1,p.2.keep m [y]))=A) (hH:HpOk m H) (hyc:YldC P l m H xs fun hp' r=>hp' = H' ∧ r = .bool true)
  (hlk:H.lookup y=some (.lrec l sp fr0)) (hk:Kept H H' y) (hN:m≤N) (hxs:(xs.all (·.okB m))=true) (hK:K (ASt.put ⟨fr.map fun p=>(p.1,p.2.keep m [y]),H' ++ A,n,N⟩ d (.bool true))):z6S P ⟨fr,hp,n,N⟩ y xs d K:=by
 have hAn : ∀ {t:Nat},t<m→A.lookup t=none:=fun {t} ht=>by
  cases hl:A.lookup t with
  | none=>rfl
  | some o=>have:=hA _ (z02 hl);simp only at this;omega
 refine ⟨m,H,_,[y],l,sp,fr0,hyc,?_,⟨hN,fun p hp=>?_,fun p hp hlt=>?_⟩,hxs,?_⟩
 ·show List.lookup y hp=_
  rw [hs,z09,hAn (hH.at' hlk).1,hlk];rfl
 ·obtain ⟨h1,h2⟩:=hH.ok p hp
  refine ⟨?_,h1,h2⟩
  show List.lookup p.1 _=_
  rw [hs,z09,hAn h1,hH.one p hp];rfl
 ·have hp' : p ∈ A++H:=hs ▸ hp
  rcases List.mem_append.1 hp' with h1|h1
  ·have:=hA p h1;omega
  ·rw [hH.one p h1];rfl
 ·rintro hp' r ⟨rfl,rfl⟩
  refine ⟨fun t ht _=>?_,?_⟩
  ·rw [List.mem_singleton.1 ht];exact hk
  ·have e:ASt.z0i ⟨fr,hp,n,N⟩ m [y] hp' = ⟨fr.map fun p=>(p.1,p.2.keep m [y]),hp' ++ A,n,N⟩:=by
    unfold ASt.z0i
    simp only [hs,List.filter_append,hH.le,List.append_nil]
    rw [List.filter_eq_self.2 fun p hp=>by simpa using hA p hp,hAk]
   rw [e]
   exact hK
theorem zm.subs (s:ASt) (fr' : List (Nat × AV)) (hp' : Hp) (m:Nat) (he : ∀ t o,hp'.lookup t=some o→s.hp.lookup t=some o) (hfr : ∀ p ∈ fr',AVle (s.get p.1) p.2) (hok:(fr'.all fun p=>p.2.okB m)=true) (hhp : ∀ t o,hp'.lookup t=some o→t<m∧o.okB m=true):zm s ⟨fr',hp',s.n,m⟩:=fun L loc ac w hr=>by
 let loc' : Nat→Option Value:=fun t=>if (hp'.lookup t).isSome then loc t else none
 have hl : ∀ t u,loc' t=some u→loc t=some u:=fun t u h=>by
  simp only [loc'] at h
  split at h
  ·exact h
  ·cases h
 have hD : ∀ k,Dm L loc' k→Dm L loc k:=fun k hk=>hk.imp id fun ⟨t,u,h1,h2⟩=>⟨t,u,hl t u h1,h2⟩
 refine ⟨loc',⟨hr.defers,hr.size,fun t _=>?_,⟨fun t o ht=>?_,fun t ht=>?_,fun t t' u u' b h1 h2=>hr.hp.apart t t' u u' b (hl _ _ h1) (hl _ _ h2),hr.hp.inL,fun t u b h1=>hr.hp.notL t u b (hl _ _ h1)⟩⟩,⟨Kp.refl _ _,fun b hb => .inl (hb.imp id fun ⟨t,u,h1,h2⟩=>⟨t,u,hl t u h1,h2⟩)⟩⟩
 ·unfold ASt.get
  cases ht:fr'.lookup t with
  | none=>exact .zH _
  | some x =>
   have hm:=z02 ht
   have h1:=hfr _ hm _ _ _ _ _ (hr.fr t trivial)
   exact (h1.low (List.all_eq_true.1 hok _ hm)).mono (Nat.le_refl _) (Kp.refl _ _) (fun k _ h=>hD k h) (fun t u _ h=>hl t u h)
 ·obtain ⟨_,u,h3,h4⟩:=hr.hp.at' t o (he t o ht)
  obtain ⟨h5,h6⟩:=hhp t o ht
  refine ⟨h5,u,by simp [loc',ht,h3],(h4.low h6).mono (Nat.le_refl _) (Kp.refl _ _) (fun k _ h=>hD k h) (fun t u _ h=>hl t u h) (fun _ _=>rfl)⟩
 ·simp [loc',ht]
theorem z9x (a b:Int):zu Try.prog 53 [.int a,.int b] (.bool (aftB a b)):=by
 cases h7:(a==7) with
 | true =>
  cases h6:(b==6) with
  | true =>
   refine zu.of Try.func53 rfl 30 rfl (by decide) (by simp [AV.okB]) ?_
   repeat' (first|refine T.zi fun K hK=>?_|refine T.block ?_|(refine T.reg (by kernel_rfl) fun K' hK'=>?_;simp only [za,zh,List.map_cons,List.map_nil];(repeat' (first|(with_reducible refine WL.fin ?_;refine hK' _ ?_;clear hK' K')|((with_reducible refine WL.step fun K2 hK2=>?_);simp only [simprocAttr,implies_true,amz,tys,h7,h6];(repeat' with_reducible (first|(refine hK2 _ ?_;clear hK2 K2)|refine And.intro ?_ ?_|intro hb))))))|refine T.skip ?_|refine T.exit ?_|refine T.ze rfl ?_|refine T.zf rfl ?_|refine T.cond rfl (fun hc=>?_) (fun hc=>?_)|refine T.ret ?_|simp only [zb,z8,reduceIte,Nat.reduceEqDiff]|((repeat ((fail_if_success (refine hK _ ?_));clear hK K));refine hK _ ?_;clear hK K))
   all_goals (refine zx.ret (.inr rfl) Try.results53 ?_;simp only [zw,zo,zn,simprocAttr,implies_true,amz,tys,];simp [aftB,h7,h6])
  | false =>
   refine zu.of Try.func53 rfl 30 rfl (by decide) (by simp [AV.okB]) ?_
   repeat' (first|refine T.zi fun K hK=>?_|refine T.block ?_|(refine T.reg (by kernel_rfl) fun K' hK'=>?_;simp only [za,zh,List.map_cons,List.map_nil];(repeat' (first|(with_reducible refine WL.fin ?_;refine hK' _ ?_;clear hK' K')|((with_reducible refine WL.step fun K2 hK2=>?_);simp only [simprocAttr,implies_true,amz,tys,h7,h6];(repeat' with_reducible (first|(refine hK2 _ ?_;clear hK2 K2)|refine And.intro ?_ ?_|intro hb))))))|refine T.skip ?_|refine T.exit ?_|refine T.ze rfl ?_|refine T.zf rfl ?_|refine T.cond rfl (fun hc=>?_) (fun hc=>?_)|refine T.ret ?_|simp only [zb,z8,reduceIte,Nat.reduceEqDiff]|((repeat ((fail_if_success (refine hK _ ?_));clear hK K));refine hK _ ?_;clear hK K))
   all_goals (refine zx.ret (.inr rfl) Try.results53 ?_;simp only [zw,zo,zn,simprocAttr,implies_true,amz,tys,];simp [aftB,h7,h6])
 | false =>
  refine zu.of Try.func53 rfl 30 rfl (by decide) (by simp [AV.okB]) ?_
  repeat' (first|refine T.zi fun K hK=>?_|refine T.block ?_|(refine T.reg (by kernel_rfl) fun K' hK'=>?_;simp only [za,zh,List.map_cons,List.map_nil];(repeat' (first|(with_reducible refine WL.fin ?_;refine hK' _ ?_;clear hK' K')|((with_reducible refine WL.step fun K2 hK2=>?_);simp only [simprocAttr,implies_true,amz,tys,h7];(repeat' with_reducible (first|(refine hK2 _ ?_;clear hK2 K2)|refine And.intro ?_ ?_|intro hb))))))|refine T.skip ?_|refine T.exit ?_|refine T.ze rfl ?_|refine T.zf rfl ?_|refine T.cond rfl (fun hc=>?_) (fun hc=>?_)|refine T.ret ?_|simp only [zb,z8,reduceIte,Nat.reduceEqDiff]|((repeat ((fail_if_success (refine hK _ ?_));clear hK K));refine hK _ ?_;clear hK K))
  all_goals (refine zx.ret (.inr rfl) Try.results53 ?_;simp only [zw,zo,zn,simprocAttr,implies_true,amz,tys,])
  all_goals (simp [aftB,h7, *])
end Go.Proofs.Ytdlgoofjechocaa
