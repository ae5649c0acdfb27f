/- Texts Au, Ax, Ty, Va, Ev, Ss, St, Su. -/
import Derived.RangeFuncOwn
import Derived.Lib.ItoaLen
import Derived.Test.YtdlgoofjechocaaGreatDoorZ04
set_option maxHeartbeats 32000000
set_option maxRecDepth 100000
set_option linter.unusedSimpArgs false
set_option linter.unusedVariables false
namespace Go.Proofs.YtdlgoofjechocaaGreatDoor
open Go.RowKit Go.Sort
def YldC (P:Program) (l:Nat) (n:Nat) (hp:Hp) (xs:List AV) (Q:Hp→AV→Prop):Prop := ∀ L loc w vs,HRel L n hp loc w→ARs n (Dm L loc) loc w xs vs →
 ∃ f tmps assign body,(Instr.yield l vs.toArray).run P w = .ok (.round l f tmps assign body) w∧RoundIn Fence.wide 0 P l f tmps assign body w fun e w' => ∃ v loc' hp' r,e = .returned v∧Q hp' r∧HRel L n hp' loc' w' ∧ AR n (Dm L loc') loc' w' r v∧Ext loc w loc' w'
def z5q (P:Program) (s:ASt) (y:Nat) (xs:List AV) (d:Option Nat) (K:ASt→Prop):Prop := ∃ n hp Q ks l sp fr,YldC P l n hp xs Q∧s.hp.lookup y=some (.lrec l sp fr)∧Passes s n hp∧(xs.all (·.okB n))=true ∧ ∀ hp' r,Q hp' r→(∀ t ∈ ks,t<n→Kept hp hp' t)∧K ((s.zR n ks hp').put d r)
def OpEffI (F:Fence) (P:Program) (o:Oper) (s:ASt) (K:ASt→Prop):Prop := ∀ L loc a w,Rel All L s loc a w→o.wpIn F 0 P a w (fun a' w' => ∃ s' loc',K s' ∧ Rel All L s' loc' a' w' ∧ Ext loc w loc' w') (fun _ _ _=>False)
theorem FOk.round {F:Fence} [k:FOk F] {n:Nat} {P:Program} {l:Nat} {f:FuncId} {tmps:Array Value} {assign body:Code} {w:World} {R:Ending→World→Prop} (h:RoundIn Fence.wide n P l f tmps assign body w R):RoundIn F n P l f tmps assign body w R:=by
 rcases k.h with rfl|⟨l,rfl⟩
 ·exact h
 ·exact h
theorem op_yield {F:Fence} [FOk F] {P:Program} {o:Oper} {s:ASt} (t:Tmp) (y:Nat) (args:Array Operand) (tys:Array TypeId) {K:ASt→Prop} (h:o.op = .call { callee := .value (.tmp t),args:=args,argTypes:=tys }) (hy:s.get t = .own y) (hc:z5q P s y (args.toList.map s.ev) o.dst K) (hd : ∀ t,o.dst=some t→t<s.n):OpEffI F P o s K:=fun L loc a w hr=>by
 obtain ⟨n,hp,Q,ks,l,sp,fr,hyc,hlk,hps,hok,hq⟩:=hc
 obtain ⟨_,u,hu,hax,hor⟩:=z0B hr (x := .tmp t) (fun _ _=>trivial) hy hlk
 obtain ⟨rfl,_⟩:=hor
 obtain ⟨LC,locC,h1,h2,h3⟩:=z6l hr hps ks
 obtain ⟨f,tmps,assign,body,hrun,hround⟩:=hyc LC locC w (args.toList.map a.eval) h1 ⟨by simp,fun j x v hx hv=>by
  simp only [List.getElem?_map,Option.map_eq_some_iff] at hx hv
  obtain ⟨z,hz,rfl⟩:=hx
  obtain ⟨z',hz',rfl⟩:=hv
  rw [hz] at hz'
  cases hz'
  exact h2 _ _ (List.all_eq_true.1 hok _ (List.mem_map_of_mem (List.mem_of_getElem? hz))) (hr.ev z (fun _ _=>trivial))⟩
 refine ⟨fun _ _=>FOk.fn _,?_⟩
 rw [Oper.semAt_eq F.round a.eval o (fun c e=>by rw [h] at e;cases e)]
 have e:(args.toList.map a.eval).toArray=args.map a.eval:=by apply Array.ext';simp
 rw [e] at hrun
 have hx:(execOp a.eval o).run P w = .ok (.round l f tmps assign body) w:=by
  simp [execOp,h,resolve,hax,Deferred.ofValue,invoke,hrun]
 rw [hx]
 refine ⟨(by rw [FOk.depth (F:=F)];intro h;cases h),FOk.round (hround.mono fun e w' ⟨v,loc',hp',r,he,hQ,g1,g2,g3⟩=>?_)⟩
 subst he
 obtain ⟨q1,q2⟩:=hq hp' r hQ
 obtain ⟨loc2,g4,g5,g6⟩:=h3 w' loc' hp' g1 g3 q1
 exact ⟨_,loc2,q2,Rel.put' g4 (s:=s.zR n ks hp') hd (g6 r v g2),g5⟩
theorem z3q {F:Fence} {n:Nat} {P:Program} {o:Oper} {a:Act} {w:World} {K K' : Act→World→Prop} {Q Q' : Exit→Act→World→Prop} (hK : ∀ a w,K a w→K' a w) (h : ∀ e a w,e ≠ .normal→Q e a w→Q' e a w) (hh:o.wpIn F n P a w K Q):o.wpIn F n P a w K' Q':=by
 refine ⟨hh.1,?_⟩
 have h2:=hh.2
 generalize (o.semAt F.round a.eval).run P w=r at *
 have lo:LetsOut Q→LetsOut Q':=fun ⟨a,w,k⟩=>⟨a,w,h _ _ _ (by simp) k⟩
 cases r with
 | ok x w' =>
  cases x <;> simp only [Oper.uponIn] at h2 ⊢ <;>
   first
    | exact hK _ _ h2
    | exact ⟨h2.1,h2.2.mono fun e w'' he=>by cases e <;> first|exact hK _ _ he|exact h _ _ _ (by simp) he|exact lo he⟩
    | exact ⟨h2.1,h2.2.mono fun _ _ he=>hK _ _ he⟩
    | exact h2
 | halt x w'=>cases x <;> simp only [Oper.uponIn] at h2 ⊢ <;> first|exact h _ _ _ (by simp) h2|exact h2
def TLI (F:Fence) (P:Program) (ops:Array Oper) (Q:Exit→ASt→Prop) (l:List Oper) (s:ASt):Prop := ∀ L loc a w,Rel All L s loc a w→wpListIn F 0 P ops (z10 L loc w Q) l a w
def WY (P:Program) (o:Oper) (s:ASt) (K:ASt→Prop):Prop:=match o.op with
 | .call { callee := .value (.tmp t),args:=args,.. }=>match s.get t with
  | .own y=>z5q P s y (args.toList.map s.ev) o.dst K
  | _=>False
 | _=>False
def WSY (P:Program) (ds:List (Option Nat)) (o:Oper) (s:ASt) (K:ASt→Prop):Prop:=z4f o s∧match o.guard with
 | none=>WY P o s K
 | some (g,want)=>match ds[g]? with
  | some (some t)=>s.get t = .p (.val (.bool want))∧WY P o s K
  | _=>False
def WLI (P:Program) (ds:List (Option Nat)) (Q:ASt→Prop):List Oper→ASt→Prop
 | [],s=>Q s
 | o :: rest,s => ∃ s',zk s s' ∧ (WS P ds o s' (WLI P ds Q rest)∨WSY P ds o s' (WLI P ds Q rest))
theorem WLI.sound {F:Fence} [FOk F] {P:Program} {ops:Array Oper} {Q:Exit→ASt→Prop} : ∀ {l:List Oper} {s:ASt},(∀ o ∈ l,z4p o=true)→WLI P (ops.toList.map (·.dst)) (Q .normal) l s→TLI F P ops (NQ Q) l s
 | [],s,_,h=>fun L loc a w hr => .of (show NQ Q .normal s from ⟨rfl,h⟩) hr (Ext.refl _ _)
 | o :: rest,s,hd,h=>by
  have ih : ∀ {s:ASt},WLI P (ops.toList.map (·.dst)) (Q .normal) rest s→TLI F P ops (NQ Q) rest s:=fun k=>WLI.sound (fun x hx=>hd x (List.mem_cons.2 (.inr hx))) k
  obtain ⟨s0,hw0,h⟩:=h
  suffices main:TLI F P ops (NQ Q) (o :: rest) s0 from fun L loc a w hr=>let ⟨loc',h1,h2⟩:=hw0 L loc a w hr;listIn_mono (fun _ _ _ k=>k.ext h2) _ a w (main L loc' a w h1)
  intro L loc a w hr
  rcases h with h|h
  ·have h1:TL P ops (NQ fun _ s=>WLI P (ops.toList.map (·.dst)) (Q .normal) rest s) [o] s0:=WL.sound (by rw [show NQ (fun _ s=>WLI P (ops.toList.map (·.dst)) (Q .normal) rest s) .normal=fun s=>WLI P (ops.toList.map (·.dst)) (Q .normal) rest s from funext fun s=>by simp [NQ]];exact h)
   have h2:=z6r (F:=F) NQ.out [o] a w (fun x hx=>hd x (List.mem_cons.2 (.inl (List.mem_singleton.1 hx)))) (h1 L loc a w hr)
   have go : ∀ a' w',z10 L loc w (NQ fun _ s=>WLI P (ops.toList.map (·.dst)) (Q .normal) rest s) .normal a' w' → wpListIn F 0 P ops (z10 L loc w (NQ Q)) rest a' w':=fun a' w' ⟨s',loc',hq,⟨L1,h3,h4⟩,h5⟩ =>
    listIn_mono (fun _ _ _ k=>k.go h3 h4 h5) rest a' w' (ih hq.2 L1 loc' a' w' h3)
   unfold wpListIn at h2 ⊢
   split
   ·rename_i hw
    rw [if_pos hw] at h2
    exact z3q go (fun e a w he ⟨s',loc',hq,_⟩=>absurd hq.1 he) h2
   ·rename_i hw
    rw [if_neg hw] at h2
    exact ⟨h2.1,go _ _ h2.2⟩
  ·obtain ⟨hdo,h⟩:=h
   have main : ∀ {K:ASt→Prop},WY P o s0 K→OpEffI F P o s0 K:=fun {K} hy=>by
    obtain ⟨dst,op,ty,pos,aft,gd⟩:=o
    unfold WY at hy
    simp only at hy
    split at hy
    ·rename_i t args tys
     split at hy
     ·rename_i y hg
      exact op_yield t y args tys rfl hg hy hdo.h
     ·exact hy.elim
    ·exact hy.elim
   have fin:OpEffI F P o s0 (WLI P (ops.toList.map (·.dst)) (Q .normal) rest)→Region.wanted o (yielded ops a.tmps)=true→wpListIn F 0 P ops (z10 L loc w (NQ Q)) (o :: rest) a w:=fun hy hw=>by
    unfold wpListIn
    rw [if_pos hw]
    refine z3q (fun a' w' ⟨s',loc',h1,h2,h3⟩=>?_) (fun _ _ _ _ h=>h.elim) (hy L loc a w hr)
    exact listIn_mono (fun _ _ _ k=>k.go h2 (.refl _ _ _) h3) rest a' w' (ih h1 L loc' a' w' h2)
   split at h
   ·rename_i hg
    exact fin (main h) (by simp [Region.wanted,hg])
   ·rename_i g want hg
    split at h
    ·rename_i t ht
     have ht' : (ops[g]?).bind (·.dst)=some t:=by
      simp only [List.getElem?_map,Option.map_eq_some_iff,Array.getElem?_toList] at ht
      obtain ⟨o',h1,h2⟩:=ht
      rw [h1];exact h2
     refine fin (main h.2) ?_
     have h5:=z1g hr (t:=t) trivial h.1
     simp [Region.wanted,hg,yielded,ht',h5]
    ·exact h.elim
where
 listIn_mono {F:Fence} {P:Program} {ops:Array Oper} {Q Q' : Exit→Act→World→Prop} (h : ∀ e a w,Q e a w→Q' e a w) : ∀ (l:List Oper) (a:Act) (w:World),wpListIn F 0 P ops Q l a w→wpListIn F 0 P ops Q' l a w
  | [],a,w,k=>h _ _ _ k
  | o :: l,a,w,k=>by
   unfold wpListIn at k ⊢
   split
   ·rename_i hw
    rw [if_pos hw] at k
    exact z3q (listIn_mono h l) (fun e a w _ k=>h e a w k) k
   ·rename_i hw
    rw [if_neg hw] at k
    exact ⟨k.1,listIn_mono h l _ _ k.2⟩
theorem T.regI {F:Fence} [FOk F] {P:Program} {Q:Exit→ASt→Prop} {s:ASt} {id:Nat} {l:List Oper} (hd:z2r l=true) (h : ∀ K:ASt→Prop,(∀ s,Q .normal s→K s)→WLI P (l.map (·.dst)) K l s):T F P (.region id l.toArray false) Q s:=fun L loc a w hr =>
 wpIn_mono (wpIn_region_lit (WLI.sound (ops:=l.toArray) (z0M hd) (by simpa using h _ fun _ h=>h) L loc a w hr)) fun _ _ _ k=>NQ.post k
theorem WLI.z06 {P:Program} {ds:List (Option Nat)} {Q:ASt→Prop} {o:Oper} {rest:List Oper} {s:ASt} (h : ∀ K:ASt→Prop,(∀ s,WLI P ds Q rest s→K s)→WS P ds o s K):WLI P ds Q (o :: rest) s:=⟨s,zk.refl s,.inl (h _ fun _ h=>h)⟩
theorem WLI.z7Y {P:Program} {ds:List (Option Nat)} {Q:ASt→Prop} {o:Oper} {rest:List Oper} {s:ASt} (h : ∀ K:ASt→Prop,(∀ s,WLI P ds Q rest s→K s)→WSY P ds o s K):WLI P ds Q (o :: rest) s:=⟨s,zk.refl s,.inr (h _ fun _ h=>h)⟩
theorem WLI.weak {P:Program} {ds:List (Option Nat)} {Q:ASt→Prop} {o:Oper} {rest:List Oper} {s s' : ASt} (hw:zk s s') (h:WLI P ds Q (o :: rest) s'):WLI P ds Q (o :: rest) s:=let ⟨s2,h1,h2⟩:=h;⟨s2,hw.trans h1,h2⟩
theorem WLI.fin {P:Program} {ds:List (Option Nat)} {Q:ASt→Prop} {s:ASt} (h:Q s):WLI P ds Q [] s:=h
def frPut:List Nat→List AV→List (Nat × AV)→List (Nat × AV)
 | p :: ps,x :: xs,fr=>frPut ps xs ((p,x) :: fr)
 | _,_,fr=>fr
def z6S:List Nat→List Value→Array Value→Array Value
 | p :: ps,v :: vs,t=>z6S ps vs (t.setIfInBounds p v)
 | _,_,t=>t
theorem z5T : ∀ (ps:List Nat) (vs:List Value) (t:Array Value),(z6S ps vs t).size=t.size
 | [],_,_=>rfl
 | _ :: _,[],_=>rfl
 | p :: ps,v :: vs,t=>by rw [z6S,z5T ps vs];simp
theorem z5r : ∀ (ps:List Nat) (vs:List Value) (t:Array Value),(ps.zip vs).foldl (fun t (p:Nat × Value)=>t.setIfInBounds p.1 p.2) t=z6S ps vs t
 | [],_,_=>rfl
 | _ :: _,[],_=>rfl
 | p :: ps,v :: vs,t=>by rw [List.zip_cons_cons,List.foldl_cons,z5r ps vs,z6S]
theorem z9v {N:Nat} {D:Nat→Prop} {loc:Nat→Option Value} {w:World} : ∀ (ps:List Nat) (xs:List AV) (vs:List Value) (fr:List (Nat × AV)) (t:Array Value),(∀ p ∈ ps,p<t.size)→vs.length=xs.length→(∀ (j:Nat) x v,xs[j]? = some x→vs[j]? = some v→AR N D loc w x v) →
  (∀ k,AR N D loc w ((fr.lookup k).getD .zA) (t.getD k undef)) → ∀ k,AR N D loc w (((frPut ps xs fr).lookup k).getD .zA) ((z6S ps vs t).getD k undef)
 | [],xs,vs,fr,t,_,_,_,h=>by cases vs <;> exact h
 | p :: ps,[],vs,fr,t,_,hl,_,h=>by
  have:vs = []:=List.eq_nil_of_length_eq_zero (by simpa using hl)
  subst this;exact h
 | p :: ps,x :: xs,vs,fr,t,hp,hl,ha,h=>by
  cases vs with
  | nil=>cases hl
  | cons v vs =>
   refine z9v ps xs vs _ _ (fun q hq=>by simpa using hp q (List.mem_cons.2 (.inr hq))) (by simpa using hl) (fun j y u hy hu=>ha (j+1) y u (by simpa using hy) (by simpa using hu)) fun k=>?_
   have hps:=hp p (List.mem_cons.2 (.inl rfl))
   by_cases e:k=p
   ·subst e
    rw [zi]
    have:=ha 0 x v rfl rfl
    simpa [hps] using this
   ·rw [ze e]
    have:=h k
    rw [Array.getD_eq_getD_getElem?,Array.getElem?_setIfInBounds_ne (Ne.symm e),← Array.getD_eq_getD_getElem?]
    exact this
def FinR (n y:Nat) (Q:Hp→Prop) (e:Exit) (s:ASt):Prop:=e = .normal ∧ ∃ s',zk s s' ∧ s'.N=n∧s'.hp.lookup y=none∧Q s'.hp
theorem YldC.of {P:Program} {l:Nat} {n:Nat} {hp:Hp} {xs:List AV} {Q:Hp→AV→Prop} {sp:LSpec} {fr:List (Nat × AV)} (y:Nat) (ks:List Nat) (Qb:Hp→Prop) (hy:hp.lookup y=some (.lrec l sp fr)) (hps:sp.ps.size=xs.length) (hpb : ∀ p ∈ sp.ps.toList,p<sp.n)
  (hfr : ∀ p ∈ fr,p.2.keep n ks=p.2)
  (hT:T (Fence.wide.inRound l) P sp.assign (zb (fun s1=>T (Fence.wide.inRound l) P sp.body (FinR n y Qb) s1) (fun _ _=>False)) ⟨frPut sp.ps.toList xs fr,hp.filter fun p=>p.1 != y,sp.n,n⟩)
  (hQ : ∀ hp3,Qb hp3→(∀ t ∈ ks,Kept hp hp3 t)∧(∀ p ∈ hp3,p.2.sub y .zA=p.2)∧Q ((y,.lrec l sp fr) :: hp3) (.p (.val (.bool true)))) (hxs:(xs.all (·.okB n))=true):YldC P l n hp xs Q:=fun L loc w vs hh hvs=>by
 obtain ⟨hyn,u,hu,rfl,tmps,hl,htn,htf⟩:=hh.at' y _ hy
 have hll:=(Array.getElem?_eq_some_iff.1 hl).1
 have hsz:vs.toArray.size=sp.ps.size:=by simp [hvs.1,hps]
 have hrun:=run_yield (P:=P) (args:=vs.toArray) hl hsz
 refine ⟨_,_,_,_,hrun,roundIn_of_wpIn trivial ?_⟩
 have hfold:(sp.ps.zip vs.toArray).foldl (fun tmps (t,a)=>tmps.setIfInBounds t a) tmps=z6S sp.ps.toList vs tmps:=by
  rw [← z5r,← Array.foldl_toList,Array.toList_zip]
 simp only [hfold]
 -- the memory of the round
 let loc1:Nat→Option Value:=fun t=>if t=y then none else loc t
 let L1:Nat→Prop:=fun b=>L b∨b=l
 have l1 : ∀ t u,loc1 t=some u→t ≠ y∧loc t=some u:=fun t u h=>by
  simp only [loc1] at h
  split at h
  ·cases h
  ·exact ⟨by assumption,h⟩
 have d1 : ∀ k,Dm L1 loc1 k→Dm L loc k:=fun k h=>by
  rcases h with (h|h)|⟨t,u,h1,h2⟩
  ·exact .inl h
  ·subst h;exact .inr ⟨y,_,hu,rfl⟩
  ·exact .inr ⟨t,u,(l1 t u h1).2,h2⟩
 have hh1:HRel L1 n (hp.filter fun p=>p.1 != y) loc1 w:=⟨fun t o ho=>by
  rw [qz] at ho
  split at ho
  ·cases ho
  ·rename_i e
   obtain ⟨g1,u,g2,g3⟩:=hh.at' t o ho
   exact ⟨g1,u,by simp [loc1,e,g2],g3.mono (Nat.le_refl _) (Kp.refl _ _) (fun k _ h=>d1 k h) (fun t u _ h=>(l1 t u h).2) (fun _ _=>rfl)⟩,fun t ho=>by
  rw [qz] at ho
  simp only [loc1]
  split
  ·rfl
  ·rename_i e;rw [if_neg e] at ho;exact hh.dead t ho,fun t t' u u' b h1 h2=>hh.apart t t' u u' b (l1 t u h1).2 (l1 t' u' h2).2,fun b hb=>hh.z8s (d1 b (.inl hb)),fun t u b h1 h2 h3=>by
  rcases h3 with h3|h3
  ·exact hh.notL t u b (l1 t u h1).2 h2 h3
  ·subst h3;exact (l1 t u h1).1 (hh.apart t y u _ b (l1 t u h1).2 hu h2 rfl)⟩
 have hrel:Rel All ⟨L1,[]⟩ ⟨frPut sp.ps.toList xs fr,hp.filter fun p=>p.1 != y,sp.n,n⟩ loc1 { tmps:=z6S sp.ps.toList vs tmps,defers := [] } w:=by
  refine ⟨rfl,by show (z6S _ _ _).size=sp.n;rw [z5T,htn],fun t _=>?_,hh1⟩
  have:=z9v (N:=n) (D:=Dm L1 loc1) (loc:=loc1) (w:=w) sp.ps.toList xs vs fr tmps (fun p hp'=>by rw [htn];exact hpb p hp') hvs.1 (fun j x v hx hv=>(hvs.2 j x v hx hv).mono (Nat.le_refl _) (Kp.refl _ _) (fun k _ h=>d1 k h) (fun t u _ h=>(l1 t u h).2)) (fun k=>(htf k).mono (Nat.le_refl _) (Kp.refl _ _) (fun k _ h=>d1 k h) (fun t u _ h=>(l1 t u h).2)) t
  exact this
 refine wpIn_mono (hT ⟨L1,[]⟩ loc1 _ w hrel) fun e a1 w1 ⟨s1,loc2,hq,⟨L2,hr2,hlx2⟩,hx2⟩=>?_
 cases e with
 | normal =>
  have hlL2:L2 l:=hlx2.sub l (.inr rfl)
  have nown : ∀ {M:Lim} {s:ASt} {lc:Nat→Option Value} {a:Act} {W:World},Rel All M s lc a W→M l → ¬ Dm (fun _=>False) lc l:=fun hr hM h=>by
   rcases h with h|⟨t,u,h1,h2⟩
   ·exact h
   ·exact hr.hp.notL t u l h1 h2 hM
  have hl2:=(hx2.kp.block l hll (nown hrel (.inr rfl))).trans hl
  have hl2l:=(Array.getElem?_eq_some_iff.1 hl2).1
  refine ⟨_,run_beginRound hl2 rfl,?_⟩
  obtain ⟨ob,hob⟩ : ∃ ob,ob=Obj.loop { state := .busy,pending:=none,fn:=sp.fn,tmps:=tmps,params:=sp.ps,assign:=sp.assign,body:=sp.body,defers:=sp.D }:=⟨_,rfl⟩
  rw [← hob]
  have hr3:Rel All L2 s1 loc2 a1 (w1.putObj l ob):=hr2.shut1 hlL2 (z16 _ _)
  refine wpIn_mono (hq L2 loc2 a1 _ hr3) fun e a4 w4 ⟨s4,loc4,⟨he,s5,hwk,hN,hy5,hqb⟩,⟨L4,hr4,hlx4⟩,hx4⟩=>?_
  subst he
  obtain ⟨loc5,hr5,hx5⟩:=hwk L4 loc4 a4 w4 hr4
  have hl3:(w1.putObj l ob).heap[l]? = some ob:=World.putObj_heap_same hl2l
  have hl4:w4.heap[l]? = some ob:=(hx4.kp.block l (Array.getElem?_eq_some_iff.1 hl3).1 (nown hr3 hlL2)).trans hl3
  rw [hob] at hl4
  have hlL4:L4 l:=hlx4.sub l hlL2
  have hl4l:=(Array.getElem?_eq_some_iff.1 hl4).1
  obtain ⟨ob2,hob2⟩ : ∃ ob2,ob2=Obj.loop { state := .ready,pending:=none,fn:=sp.fn,tmps:=tmps,params:=sp.ps,assign:=sp.assign,body:=sp.body,defers:=sp.D }:=⟨_,rfl⟩
  have hr6:Rel All L4 s5 loc5 a4 (w4.putObj l ob2):=hr5.shut1 hlL4 (z16 _ _)
  obtain ⟨W,hW⟩ : ∃ W,W=w4.putObj l ob2:=⟨_,rfl⟩
  have hend:(Instr.endRound l none).run P w4 = .ok (.bool true) W:=by rw [hW,hob2];exact run_endRound none hl4
  refine ⟨_,_,hend,?_⟩
  have hWl:W.heap[l]? = some ob2:=by rw [hW];exact World.putObj_heap_same hl4l
  rw [← hW] at hr6
  have fr2 : ∀ b,Dm (fun _=>False) loc2 b→Dm (fun _=>False) loc1 b∨w.heap.size≤b:=hx2.fresh
  have fr5 : ∀ b,Dm (fun _=>False) loc5 b→Dm (fun _=>False) loc1 b∨w.heap.size≤b:=fun b h=>by
   rcases hx5.fresh b h with h|h
   ·rcases hx4.fresh b h with h|h
    ·exact fr2 b h
    ·have:=hx2.kp.size;simp at h;exact .inr (by omega)
   ·have:=hx2.kp.size;have:=hx4.kp.size;simp at this;exact .inr (by omega)
  have k1:Kp (fun k=>Dm (fun _=>False) loc1 k∨k=l) w (w1.putObj l ob):=(hx2.kp.wide fun k h => .inl h).trans ((z16 w1 ob).wide (D':=fun k=>k=l) fun k h=>h) fun x hx => .inl (.inr hx)
  have k2:Kp (fun k=>Dm (fun _=>False) loc1 k∨k=l) w w4:=k1.trans hx4.kp fun x hx=>(fr2 x hx).imp (fun h => .inl h) id
  have kW:Kp (fun k=>Dm (fun _=>False) loc1 k∨k=l) w W:=by
   rw [hW]
   exact k2.trans ((z16 w4 ob2).wide (D':=fun k=>k=l) fun k h=>h) fun x hx => .inl (.inr hx)
  have kF:Kp (Dm (fun _=>False) loc) w W:=kW.wide fun k h=>by
   rcases h with (h|⟨t,u,h1,h2⟩)|h
   ·exact h.elim
   ·exact .inr ⟨t,u,(l1 t u h1).2,h2⟩
   ·exact .inr ⟨y,_,hu,by rw [h];rfl⟩
  have kL:Kp (Dm L loc) w W:=kF.wide fun k h=>h.imp (fun h=>h.elim) id
  have sub4 : ∀ b,L b→L4 b:=fun b h=>hlx4.sub b (hlx2.sub b (.inl h))
  let loc' : Nat→Option Value:=fun t=>if t=y then some (.func (.yield l) #[] #[]) else loc5 t
  have ly:loc' y=some (.func (.yield l) #[] #[]):=by simp [loc']
  have lo : ∀ t,t ≠ y→loc' t=loc5 t:=fun t h=>by simp [loc',h]
  have dm5 : ∀ k,k<W.heap.size→Dm L loc' k→Dm L4 loc5 k:=fun k _ h=>by
   rcases h with h|⟨t,u,h1,h2⟩
   ·exact .inl (sub4 k h)
   ·by_cases e:t=y
    ·subst e;rw [ly] at h1;cases h1;cases h2;exact .inl hlL4
    ·exact .inr ⟨t,u,(lo t e) ▸ h1,h2⟩
  have dmF : ∀ b,Dm (fun _=>False) loc' b→Dm (fun _=>False) loc b∨w.heap.size≤b:=fun b h=>by
   rcases h with h|⟨t,u,h1,h2⟩
   ·exact h.elim
   ·by_cases e:t=y
    ·subst e;rw [ly] at h1;cases h1;exact .inl (.inr ⟨_,_,hu,h2⟩)
    ·rcases fr5 b (.inr ⟨t,u,(lo t e) ▸ h1,h2⟩) with (h|⟨t,u,h3,h4⟩)|h
     ·exact h.elim
     ·exact .inl (.inr ⟨t,u,(l1 t u h3).2,h4⟩)
     ·exact .inr h
  have hDw : ∀ k,k<w.heap.size→Dm L loc' k→Dm L loc k:=fun k hk h=>by
   rcases h with h|h
   ·exact .inl h
   ·rcases dmF k (.inr h) with h|h
    ·exact h.imp (fun h=>h.elim) id
    ·omega
  obtain ⟨hks,hsub,hQQ⟩:=hQ s5.hp hqb
  have keepx : ∀ k,AR n (Dm L loc') loc' W ((fr.lookup k).getD .zA) (tmps.getD k undef):=fun k=>by
   have h1:=(htf k).keep (n:=n) (ks:=ks) (N':=n) (loc':=loc') (Nat.le_refl _) kL hDw fun t u ht hc h=>by
    rcases hc with hc|hc
    ·omega
    ·obtain ⟨o,o',v,g1,g2,g3,g4⟩:=(hks t hc).spec
     obtain ⟨_,u1,g5,g6⟩:=hh.at' t o g1
     by_cases e:t=y
     ·subst e;rw [hy5] at g2;cases g2
     ·obtain ⟨_,u2,g7,g8⟩:=hr6.hp.at' t o' g2
      rw [lo t e,g7] at h;cases h
      rw [g5,g6.handle g3,g8.handle g4]
   cases hf:fr.lookup k with
   | none=>exact .zA _
   | some x =>
    rw [hf] at h1
    have:=hfr _ (z1i hf)
    simp only at this
    simp only [Option.getD_some] at h1 ⊢
    rw [this] at h1;exact h1
  refine ⟨.bool true,loc',(y,.lrec l sp fr) :: s5.hp,_,rfl,hQQ,⟨fun t o ho=>?_,fun t ho=>?_,fun t t' u u' b h1 h2 h3 h4=>?_,fun b hb=>hr6.hp.inL b (sub4 b hb),fun t u b h1 h2 h3=>?_⟩,.zV _ rfl,⟨kF,dmF⟩⟩
  ·by_cases e:t=y
   ·subst e
    rw [zi] at ho
    cases ho
    exact ⟨hyn,_,ly,rfl,tmps,by rw [hWl,hob2],htn,keepx⟩
   ·rw [ze e] at ho
    obtain ⟨g1,u,g2,g3⟩:=hr6.hp.at' t o ho
    rw [hN] at g1 g3
    refine ⟨g1,u,(lo t e).trans g2,?_⟩
    have:=g3.sub (t:=y) (y := .zA) (N':=n) (D':=Dm L loc') (loc':=loc') (w':=W) (Nat.le_refl _) (Kp.refl _ _) dm5 (fun k z _ hk hz=>(lo k hk) ▸ hz) (fun v _ _ => .zA v) (fun _ _=>rfl)
    rwa [hsub _ (z1i ho)] at this
  ·by_cases e:t=y
   ·subst e;rw [zi] at ho;cases ho
   ·rw [ze e] at ho
    rw [lo t e];exact hr6.hp.dead t ho
  ·by_cases e:t=y
   ·by_cases e' : t' = y
    ·rw [e,e']
    ·subst e
     rw [ly] at h1;cases h1;cases h3
     rw [lo t' e'] at h2
     exact (hr6.hp.notL t' u' _ h2 h4 hlL4).elim
   ·by_cases e' : t' = y
    ·subst e'
     rw [ly] at h2;cases h2;cases h4
     rw [lo t e] at h1
     exact (hr6.hp.notL t u _ h1 h3 hlL4).elim
    ·rw [lo t e] at h1
     rw [lo t' e'] at h2
     exact hr6.hp.apart t t' u u' b h1 h2 h3 h4
  ·by_cases e:t=y
   ·subst e
    rw [ly] at h1;cases h1
    exact hh.notL _ _ b hu h2 h3
   ·rw [lo t e] at h1
    exact hr6.hp.notL t u b h1 h2 (sub4 b h3)
 | _=>exact hq.elim
theorem T.rangeF {P:Program} {Q:Exit→ASt→Prop} {s:ASt} {g:Operand} {ps:Array Tmp} {assign body:Code} (gf:FuncId) (caps:List AV) (fr:List (Nat × AV)) (hg:s.ev g = .fn (.func gf) caps) (he:Ent P gf) (hfr : ∀ p ∈ fr,s.get p.1=p.2)
  (hc : ∀ l fn D,∃ n hp I ks,MemC P gf n hp (.own s.N :: caps) I∧Passes (s.add (.lrec l ⟨s.n,fn,ps,assign,body,D⟩ fr)) n hp∧((AV.own s.N :: caps).all (·.okB n))=true ∧ ∀ hp' r,I hp' r→(∀ t ∈ ks,t<n→Kept hp hp' t)∧(∃ fr',hp'.lookup s.N=some (.lrec l ⟨s.n,fn,ps,assign,body,D⟩ fr')) ∧
   ∀ ob,Q .normal { (s.add (.lrec l ⟨s.n,fn,ps,assign,body,D⟩ fr)).zR n ks hp' with hp:=zF ((s.add (.lrec l ⟨s.n,fn,ps,assign,body,D⟩ fr)).zR n ks hp').hp s.N (.raw (.func (.yield l) #[] #[]) ob) }):T Fence.wide P (.rangeFunc g ps assign body) Q s:=fun L loc a w hr=>by
 have h0:=hr.ev g (fun _ _=>trivial)
 rw [hg] at h0
 generalize hu:a.eval g=u at h0
 cases h0 with
 | fn _ _ lb hlb hla =>
 refine wpIn_rangeFunc fun fn _=>?_
 obtain ⟨D,hD⟩ : ∃ D,D=w.heap.size:=⟨_,rfl⟩
 obtain ⟨W0,hW0⟩ : ∃ W0,W0=w.alloc (.deferred (some [])):=⟨_,rfl⟩
 have hs0:W0.heap.size=D+1:=by rw [hW0,hD];simp
 obtain ⟨l,hl⟩ : ∃ l,l=W0.heap.size:=⟨_,rfl⟩
 obtain ⟨rec,hrec⟩ : ∃ rec,rec=Obj.loop { state := .ready,pending:=none,fn,tmps:=a.tmps,params:=ps,assign,body,defers:=D }:=⟨_,rfl⟩
 obtain ⟨W1,hW1⟩ : ∃ W1,W1=W0.alloc rec:=⟨_,rfl⟩
 have b0:Blw w.heap.size w W0:=by rw [hW0];exact (Blw.refl _ _).alloc (Nat.le_refl _) _
 have b1:Blw W0.heap.size W0 W1:=by rw [hW1];exact (Blw.refl _ _).alloc (Nat.le_refl _) _
 have hD0:W0.heap[D]? = some (.deferred (some [])):=by rw [hW0,hD];exact World.alloc_heap_new _ _
 obtain ⟨n,hp,I,ks,hm,hps,hok,hI⟩:=hc l fn D
 -- the limits behind the statement's beginning
 let L1:Lim:=⟨fun b=>L b∨b=D,mark D :: L.ds⟩
 have dm1 : ∀ k,k<w.heap.size→Dm L1 loc k→Dm L loc k:=fun k hk h=>by
  rcases h with (h|h)|h
  ·exact .inl h
  ·omega
  ·exact .inr h
 have notD : ∀ t u,loc t=some u→zP u ≠ some D:=fun t u h e=>by
  obtain ⟨o,_,ho⟩:=hr.hp.z1G h
  have:=ho.z0G e
  omega
 have hr0:Rel All L1 s loc { a with defers:=mark D :: a.defers } W0:=⟨by show mark D :: a.defers=mark D :: L.ds;rw [hr.defers],hr.size,fun t _=>(hr.fr t trivial).mono (Nat.le_refl _) (.of_below b0) dm1 (fun _ _ _ h=>h),
  ⟨fun t o ho=>let ⟨g1,u,g2,g3⟩:=hr.hp.at' t o ho;⟨g1,u,g2,g3.mono (Nat.le_refl _) (.of_below b0) dm1 (fun _ _ _ h=>h) (fun b hb=>b0.block b (g3.z0G hb))⟩,hr.hp.dead,hr.hp.apart,fun b hb=>by
   rcases hb with hb|hb
   ·have:=hr.hp.inL b hb;omega
   ·omega,fun t u b h1 h2 h3=>by
   rcases h3 with h3|h3
   ·exact hr.hp.notL t u b h1 h2 h3
   ·exact notD t u h1 (h3 ▸ h2)⟩⟩
 have hup : ∀ b,zP (.func (.yield l) #[] #[])=some b→W0.heap.size≤b:=fun b e=>by cases e;rw [hl];exact Nat.le_refl _
 have hWl:W1.heap[l]? = some rec:=by rw [hW1,hl];exact World.alloc_heap_new _ _
 let sp:LSpec:=⟨s.n,fn,ps,assign,body,D⟩
 have hr1:Rel All L1 (s.add (.lrec l sp fr)) (zO loc s.N (.func (.yield l) #[] #[])) { a with defers:=mark D :: a.defers } W1:=by
  refine hr0.add b1 (.func (.yield l) #[] #[]) (.lrec l sp fr) hup ⟨rfl,a.tmps,by rw [hWl,hrec],hr.size,fun t=>?_⟩
  cases hf:fr.lookup t with
  | none=>exact .zA _
  | some x =>
   have h1:=hr0.fr t trivial
   rw [hfr _ (z1i hf)] at h1
   exact h1.mono (Nat.le_succ _) (.of_below b1) (fun k hk hd=>(z1S hd).resolve_left fun e=>by have:=hup k e;omega) (fun k v hk hv=>by rwa [zC _ _ (by omega)] at hv)
 have x1:Ext loc w (zO loc s.N (.func (.yield l) #[] #[])) W1:=(Ext.of_below b0).trans (.add b1 _ _ hup)
 obtain ⟨LC,locC,h1,h2,h3⟩:=z6l hr1 hps ks
 have hcall:=hm LC locC W1 (.func (.yield l) #[] #[] :: lb.toList) h1 ⟨by simp [hlb],fun j x v hx hv=>by
  refine h2 x v (List.all_eq_true.1 hok x (List.mem_of_getElem? hx)) ?_
  cases j with
  | zero =>
   cases hx;cases hv
   exact .own _ _ (Nat.lt_succ_self _) rfl fun z hz=>by rw [zG] at hz;cases hz;rfl
  | succ j =>
   have h5:=hla j x hx
   have h6:lb[j]? = some v:=by simpa using hv
   rw [Array.getD_eq_getD_getElem?,h6] at h5
   exact (h5.mono (D':=Dm L1 loc) (Nat.le_refl _) (.of_below b0) dm1 (fun _ _ _ h=>h)).mono (Nat.le_succ _) (.of_below b1) (fun k hk hd=>(z1S hd).resolve_left fun e=>by have:=hup k e;omega) (fun k v hk hv=>by rwa [zC _ _ (by omega)] at hv)⟩
 refine ⟨l,[mark D],W1,{ target := .fn (.func gf) lb,args := #[.func (.yield l) #[] #[]] },W1,gf,(.func (.yield l) #[] #[] :: lb.toList).toArray,W1,?_,?_,fun _ _=>trivial,?_,(by intro h;cases h),callsIn_wide.2 (hcall.mono ?_)⟩
 ·rw [hW1,hrec,hl,hs0,hD,hW0]
  exact run_enterLoop_outer _ _ _ _ _
 ·simp only [resolve,hu]
  simp [go_sem]
 ·have e:(Value.func (.yield l) #[] #[] :: lb.toList).toArray = #[.func (.yield l) #[] #[]]++lb:=by apply Array.ext';simp
  rw [e]
  have:=he (#[.func (.yield l) #[] #[]]++lb) W1
  simp [invoke,go_sem,this]
 ·rintro e W2 ⟨v,loc',hp',r,rfl,hQ,g1,g2,g3⟩
  obtain ⟨q1,⟨fr',q2⟩,q3⟩:=hI hp' r hQ
  obtain ⟨loc2,g4,g5,_⟩:=h3 W2 loc' hp' g1 g3 q1
  have hlk:((s.add (.lrec l sp fr)).zR n ks hp').hp.lookup s.N=some (.lrec l sp fr'):=by
   simp only [ASt.zR]
   rw [z2V,q2];rfl
  obtain ⟨_,u2,hu2,rfl,tmps2,hW2,_⟩:=g4.hp.at' s.N _ hlk
  have hW2l:=(Array.getElem?_eq_some_iff.1 hW2).1
  refine ⟨none,_,run_endLoop hW2 (by simp),?_⟩
  obtain ⟨ob,hob⟩ : ∃ ob,ob=Obj.loop { state := .exhausted,pending:=none,fn:=sp.fn,tmps:=tmps2,params:=sp.ps,assign:=sp.assign,body:=sp.body,defers:=sp.D }:=⟨_,rfl⟩
  rw [← hob]
  have hr4:=g4.turn (o' := .raw (.func (.yield l) #[] #[]) ob) hlk hu2 rfl (z16 W2 ob) ⟨l,rfl,rfl,World.putObj_heap_same hW2l⟩
  have x4:Ext loc2 W2 loc2 (W2.putObj l ob) := .turn hu2 rfl (z16 W2 ob)
  have x5:=(x1.trans g5).trans x4
  have hDl:D ≠ l:=by omega
  have hW1D:W1.heap[D]? = some (.deferred (some [])):=(b1.block D (by omega)).trans hD0
  have hW2D:W2.heap[D]? = some (.deferred (some [])):=(g5.kp.block D (Array.getElem?_eq_some_iff.1 hW1D).1 (fun h=>by
   rcases h with h|⟨t,u,h5,h6⟩
   ·exact h
   ·exact hr1.hp.notL t u D h5 h6 (.inr rfl))).trans hW1D
  exact ⟨_,loc2,q3 ob,⟨L1,hr4,⟨⟨[D],rfl,by simp,fun x hx=>by
   rw [List.mem_singleton] at hx
   subst hx
   exact ⟨by omega,.inr rfl,by rw [World.putObj_heap_other hDl];exact hW2D⟩⟩,fun b hb => .inl hb,fun b hb=>hb.imp id fun e=>by omega⟩⟩,x5⟩
def z2e (ops:Array Oper) (l:List Oper) (fl:Fl) (size i:Nat) (o:Oper) (f:Option (Nat × Nat)):Bool :=
 (match o.dst with|some d=>decide (d<size)|none=>f.isNone) &&
 (o.after.all (fun e => !Region.binds .any e||decide (e.on<i)) &&
 ((o.looksAt ops).all (fun t=>decide (t<size)&&(List.range l.length).all fun j=>((l[j]?).bind (·.dst)) != some t||z2t ops i j) &&
 ((List.range l.length).all (fun j=>i==j||o.dst.isNone||((l[j]?).bind (·.dst)) != o.dst) &&
 (match f with
  | some (lo,hi)=>(decide (lo=0)||(List.range l.length).any fun k=>wrB fl k&&(rkf fl k+1==lo&&z2t ops i k))&&(decide (rkf fl fl.length≤hi)||(List.range l.length).any fun k=>wrB fl k&&(rkf fl k==hi&&z2t ops k i))
  | none=>o.guard.isNone&&(decide (rkf fl i=0)||(List.range l.length).any fun k=>wrB fl k&&(rkf fl k+1==rkf fl i&&z8L ops i k))))))
def z5F (ops:Array Oper) (l:List Oper) (fl:Fl) (size:Nat):Bool :=
 decide (fl.length=l.length)&&((decide (rkf fl fl.length=0)||(List.range fl.length).any fun i=>wrB fl i&&rkf fl i+1==rkf fl fl.length) &&
 (List.range l.length).all fun i=>match l[i]?,fl[i]? with
  | some o,some f=>z2e ops l fl size i o f
  | _,_=>false)
theorem z1j {ops:Array Oper} {l:List Oper} {fl:Fl} {size i:Nat} {o:Oper} (h:z5F ops l fl size=true) (ho:l[i]? = some o) : ∃ f,fl[i]? = some f∧z2e ops l fl size i o f=true:=by
 simp only [z5F,Bool.and_eq_true,List.all_eq_true,List.mem_range] at h
 have:=h.2.2 i (List.getElem?_eq_some_iff.1 ho).1
 rw [ho] at this
 cases hf:fl[i]? with
 | none=>simp [hf] at this
 | some f=>simp [hf] at this;exact ⟨f,rfl,this⟩
theorem fitT_of {ops:Array Oper} {l:List Oper} {fl:Fl} (hpre : ∀ (i:Nat) (o:Oper),l[i]? = some o→ops[i]? = some o) {size:Nat} (h:z5F ops l fl size=true):Fit ops (l.zip fl):=by
 refine ⟨fun i j a b ha hb hij t ht e=>?_,fun i j a b d ha hb hij hd e=>?_,fun a ha hs=>?_⟩
 ·obtain ⟨o,f⟩:=a
  obtain ⟨o',f'⟩:=b
  obtain ⟨h1,h2⟩:=z1E ha
  obtain ⟨h3,h4⟩:=z1E hb
  obtain ⟨f2,hf2,hc⟩:=z1j h h1
  simp only [z2e,Bool.and_eq_true,List.all_eq_true,List.mem_range] at hc
  have:=(hc.2.2.1 t ht).2 j (List.getElem?_eq_some_iff.1 h3).1
  simp only [Bool.or_eq_true,h3] at this
  rcases this with h5|h5
  ·simp at h5;exact h5 e
  ·obtain ⟨o2,ed,e1,e2,e3,e4⟩:=z1V h5
   have e1':=hpre i o h1
   rw [e1] at e1';cases e1'
   have:=Array.all_eq_true_iff_forall_mem.1 hc.2.1 ed e2
   simp only [e3,Bool.not_true,Bool.false_or,decide_eq_true_eq] at this
   omega
 ·obtain ⟨o,f⟩:=a
  obtain ⟨o',f'⟩:=b
  obtain ⟨h1,h2⟩:=z1E ha
  obtain ⟨h3,h4⟩:=z1E hb
  obtain ⟨f2,hf2,hc⟩:=z1j h h1
  simp only [z2e,Bool.and_eq_true,List.all_eq_true,List.mem_range] at hc
  have:=hc.2.2.2.1 j (List.getElem?_eq_some_iff.1 h3).1
  simp only at hd e
  simp [h3,hd,e] at this
  omega
 ·obtain ⟨i,hi⟩:=List.mem_iff_getElem?.1 ha
  obtain ⟨o,f⟩:=a
  obtain ⟨h1,h2⟩:=z1E hi
  obtain ⟨f2,hf2,hc⟩:=z1j h h1
  rw [h2] at hf2;cases hf2
  simp only [z2e,Bool.and_eq_true] at hc
  have h3:=hc.1
  split at h3
  ·rename_i d hd;exact ⟨d,hd⟩
  ·cases f with
   | none=>cases hs
   | some f=>cases h3
theorem WS.sound {P:Program} {ops:Array Oper} {Q:Exit→ASt→Prop} {o:Oper} {rest:List Oper} {s:ASt} (h:WS P (ops.toList.map (·.dst)) o s (TL P ops Q rest)):TL P ops Q (o :: rest) s:=by
 obtain ⟨hd,h⟩:=h
 split at h
 ·rename_i hg
  exact WO.sound (by simp [z3D,hg]) hd h
 ·rename_i g want hg
  split at h
  ·rename_i t ht
   have ht' : (ops[g]?).bind (·.dst)=some t:=by
    simp only [List.getElem?_map,Option.map_eq_some_iff,Array.getElem?_toList] at ht
    obtain ⟨o',h1,h2⟩:=ht
    rw [h1];exact h2
   split at h
   ·rename_i b hb
    by_cases hbw:b=want
    ·have hw:=(Sq.same (s:=s) (t:=t) (x := .bool want) (by rw [hb,hbw])).weak
     exact TL.weak hw (WO.sound (by simp only [z3D,hg,ht',ASt.get_put,if_true]) (by unfold z4f at hd ⊢;exact hd) (h.1 hbw))
    ·have hbn:b=(!want):=by cases b <;> cases want <;> simp_all
     have hw:=(Sq.same (s:=s) (t:=t) (x := .bool (!want)) (by rw [hb,hbn])).weak
     exact TL.weak hw (TL.skip (by simp only [z1z,hg,ht',ASt.get_put,if_true];exact .inl trivial) (h.2 hbn) hd.h)
   ·rename_i hb
    exact TL.skip (by simp only [z1z,hg,ht'];exact .inr hb) h hd.h
   ·exact h.elim
  ·exact h.elim
def WLW (P:Program) (ds:List (Option Nat)) (Q:ASt→Prop):List Oper→ASt→Prop
 | [],s=>Q s
 | o :: rest,s => ∃ s',zk s s' ∧ WS P ds o s' (WLW P ds Q rest)
theorem WLW.sound {P:Program} {ops:Array Oper} {Q:Exit→ASt→Prop} : ∀ {l:List Oper} {s:ASt},WLW P (ops.toList.map (·.dst)) (Q .normal) l s→TL P ops Q l s
 | [],_,h=>TL.nil h
 | _ :: _,_,⟨_,h1,h2⟩=>TL.weak h1 (WS.sound (WS.mono (fun _ k=>WLW.sound k) h2))
theorem WLW.step {P:Program} {ds:List (Option Nat)} {Q:ASt→Prop} {o:Oper} {rest:List Oper} {s:ASt} (h : ∀ K:ASt→Prop,(∀ s,WLW P ds Q rest s→K s)→WS P ds o s K):WLW P ds Q (o :: rest) s:=⟨s,zk.refl s,h _ fun _ h=>h⟩
theorem WLW.weak {P:Program} {ds:List (Option Nat)} {Q:ASt→Prop} {o:Oper} {rest:List Oper} {s s' : ASt} (hw:zk s s') (h:WLW P ds Q (o :: rest) s'):WLW P ds Q (o :: rest) s:=let ⟨s2,h1,h2⟩:=h;⟨s2,hw.trans h1,h2⟩
theorem WLW.fin {P:Program} {ds:List (Option Nat)} {Q:ASt→Prop} {s:ASt} (h:Q s):WLW P ds Q [] s:=h
def tailB (ops:Array Oper) (n:Nat):Bool:=decide (n≤ops.size)&&((List.range n).all (fun i=>match ops[i]? with|none=>false|some o=>o.after.all (fun e => !Region.binds .any e||decide (e.on<i))) &&
 ((decide (n=ops.size)||(Region.sinkB .any ops n&&Region.chainB .any ops n))&&Region.seqB .any ops (ops.size-n) n (z1f ops.size n)))
theorem T.commT {F:Fence} [FOk F] {P:Program} {Q:Exit→ASt→Prop} {s:ASt} {id:Nat} {l:List Oper} (n:Nat) (fl:Fl) (hm:P.follows .mixedOrders=true) (hB:(z2r l&&(z5F l.toArray (l.take n) fl s.n&&tailB l.toArray n))=true)
  (h : ∀ K:ASt→Prop,(∀ s,WLW P (l.map (·.dst)) (Q .normal) (l.drop n) s→K s)→WC P (l.map (·.dst)) K ((l.take n).zip fl) [] [] s):T F P (.region id l.toArray true) Q s:=fun L loc a w hr=>by
 obtain ⟨hnd,hB⟩:=Bool.and_eq_true_iff.1 hB
 obtain ⟨hB,htB⟩:=Bool.and_eq_true_iff.1 hB
 simp only [tailB,Bool.and_eq_true,decide_eq_true_eq,Bool.or_eq_true] at htB
 obtain ⟨hnle,hdep,htail,hseq⟩:=htB
 obtain ⟨lh,hlh⟩ : ∃ lh,lh=l.take n:=⟨_,rfl⟩
 rw [← hlh] at hB h
 have hlhl:lh.length=n:=by rw [hlh,List.length_take];simp at hnle;omega
 have hpre : ∀ (i:Nat) (o:Oper),lh[i]? = some o→l.toArray[i]? = some o:=fun i o hi=>by
  rw [List.getElem?_toArray]
  rw [hlh,List.getElem?_take] at hi
  split at hi
  ·exact hi
  ·cases hi
 have hback : ∀ (i:Nat) (o:Oper),i<n→l.toArray[i]? = some o→lh[i]? = some o:=fun i o hi ho=>by
  rw [hlh,List.getElem?_take,if_pos hi];simpa using ho
 refine wpIn_mono (wpIn_region_any hm (z5s NQ.out (z0M hnd) _ _ _ _ ?_)) fun _ _ _ k=>NQ.post k
 change wpAny P .any l.toArray (z10 L loc w (NQ Q)) _ _ a w.drew
 have hfit:=fitT_of hpre hB
 have hlen:fl.length=lh.length:=by simp only [z5F,Bool.and_eq_true,decide_eq_true_eq] at hB;exact hB.1
 have hsz:l.toArray.size=l.length:=by simp
 have hgd : ∀ x ∈ lh.zip fl,x.2=none→x.1.guard=none:=fun x hx hn=>by
  obtain ⟨i,hi⟩:=List.mem_iff_getElem?.1 hx
  obtain ⟨o,f⟩:=x
  obtain ⟨h1,h2⟩:=z1E hi
  obtain ⟨f2,hf2,hc⟩:=z1j hB h1
  rw [h2] at hf2;cases hf2
  simp only at hn;subst hn
  simp only [z2e,Bool.and_eq_true] at hc
  simpa using hc.2.2.2.2.1
 obtain ⟨fin,hps,hq,ho⟩:=WC.out (ops:=l.toArray) (lh.zip fl) [] [] s hfit (by simpa using h _ fun _ h=>h) (fun p hp=>(by cases hp)) hgd
 obtain ⟨tl,hmem,htl⟩:=ho.mem
 simp only [List.nil_append] at hmem
 have hm' : wct (lh.zip fl)=rkf fl fl.length:=by
  have:=z4T (l:=lh) (fl:=fl) fl.length hlen
  rw [List.take_of_length_le (by simp;omega)] at this
  exact this
 have hpl:hps.length=rkf fl fl.length+1:=by rw [hmem];simp [htl,hm']
 have hn:fin.n=s.n:=ho.n
 -- what a ready operation knows
 have ready : ∀ {listed:Array Bool} {i k:Nat},i ∈ Region.ready .any l.toArray listed→z2t l.toArray i k=true→listed.getD k false=true:=by
  intro listed i k hi he
  obtain ⟨o,e,h1,h2,h3,h4⟩:=z1V he
  obtain ⟨_,o',ho',hall⟩:=mem_ready.1 hi
  rw [h1] at ho';cases ho'
  rw [← h4];exact hall e h2 h3
 let I:Array Bool→Act→World→Prop:=fun listed a' w' => ∃ (j:Nat) (hj:Hp × Nat) (loc' : Nat→Option Value),HeadInv .any l.toArray n listed∧j≤rkf fl fl.length ∧
  (∀ i,fl[i]? = some none→(listed.getD i false=true↔rkf fl i<j))∧hps[j]? = some hj∧Rel All L (midS lh fin listed hj) loc' a' w' ∧ Ext loc w loc' w'
 have looks : ∀ {listed:Array Bool} {i:Nat} {o:Oper} {hj:Hp × Nat},lh[i]? = some o→i ∈ Region.ready .any l.toArray listed → ∀ t ∈ o.looksAt l.toArray,(midS lh fin listed hj).get t=fin.get t:=by
  intro listed i o hj hio hi t ht
  obtain ⟨f,hf,hc⟩:=z1j hB hio
  simp only [z2e,Bool.and_eq_true,List.all_eq_true,List.mem_range] at hc
  obtain ⟨h1,h2⟩:=hc.2.2.1 t ht
  have hk:known lh listed t=true:=by
   simp only [known,List.all_eq_true,List.mem_range,Bool.or_eq_true]
   intro k hk
   have:=h2 k hk
   simp only [Bool.or_eq_true] at this
   exact this.imp (fun h=>h) (fun he=>ready hi he)
  rw [z0W,if_neg (by rw [hk];simp)]
 have dsts : ∀ {i:Nat} {o:Oper} {d:Nat},lh[i]? = some o→o.dst=some d→d<s.n:=by
  intro i o d hio hd
  obtain ⟨f,hf,hc⟩:=z1j hB hio
  simp only [z2e,Bool.and_eq_true] at hc
  have:=hc.1
  rw [hd] at this
  simpa using this
 have hclo : ∀ {listed:Array Bool},HeadInv .any l.toArray n listed → ∀ i k,listed.getD i false=true→z2t l.toArray i k=true→listed.getD k false=true:=fun hin i k hi he=>by
  obtain ⟨o,e,h1,h2,h3,h4⟩:=z1V he
  rw [← h4];exact hin.closed i o h1 hi e h2 h3
 -- the frame after an operation
 have frame : ∀ {listed:Array Bool} {i:Nat} {o:Oper} {hj:Hp × Nat} {av:AV},lh[i]? = some o→i<listed.size→av=dav o fin → ∀ t,(midS lh fin (listed.setIfInBounds i true) hj).get t = .zA∨(midS lh fin (listed.setIfInBounds i true) hj).get t=((midS lh fin listed hj).put o.dst av).get t:=by
  intro listed i o hj av hio hi hav t
  rw [z0W]
  split
  ·left;rfl
  ·rename_i hk
   right
   have old:o.dst ≠ some t→(midS lh fin listed hj).get t=fin.get t:=fun hd=>by
    rw [z0W,if_neg]
    rintro ⟨h1,h2⟩
    refine hk ⟨h1,?_⟩
    cases h3:known lh (listed.setIfInBounds i true) t with
    | false=>rfl
    | true=>rw [z7b hio hi h3 hd] at h2;cases h2
   cases hd:o.dst with
   | none=>exact (old (by rw [hd];intro e;cases e)).symm
   | some d =>
    rw [ASt.get_put]
    split
    ·rename_i e;rw [e,hav];simp [dav,hd]
    ·rename_i e
     exact (old (by rw [hd];intro e';cases e';exact e rfl)).symm
 have toMid : ∀ {listed:Array Bool} {i:Nat} {o:Oper} {hj:Hp × Nat} {av:AV} {loc' : Nat→Option Value} {a' : Act} {w' : World},lh[i]? = some o→i<listed.size→av=dav o fin→Rel All L ((midS lh fin listed hj).put o.dst av) loc' a' w' → Rel All L (midS lh fin (listed.setIfInBounds i true) hj) loc' a' w':=by
  intro listed i o hj av loc' a' w' hio hi hav hrel
  have hput : ∀ (s:ASt) (d:Option Nat) (x:AV),(s.put d x).hp=s.hp∧(s.put d x).n=s.n∧(s.put d x).N=s.N:=fun s d x=>by cases d <;> exact ⟨rfl,rfl,rfl⟩
  obtain ⟨p1,p2,p3⟩:=hput (midS lh fin listed hj) o.dst av
  refine ⟨hrel.defers,hrel.size.trans p2,fun t ht=>?_,by have:=hrel.hp;rw [p1,p3] at this;exact this⟩
  have h1:=hrel.fr t trivial
  rw [p3] at h1
  rcases frame (hj:=hj) hio hi hav t with e|e
  ·rw [e];exact .zA _
  ·rw [e];exact h1
 have hstart:I (Array.replicate l.toArray.size false) a w.drew:=by
  refine ⟨0,(s.hp,s.N),loc,⟨by simp,fun j oj _ hl=>(by rw [getD_replicate_false] at hl;cases hl),fun t _ ht=>getD_in (by simpa using ht) (getD_replicate_false _ _)⟩,Nat.zero_le _,fun i _=>⟨fun hi=>(by rw [getD_replicate_false] at hi;cases hi),fun hi=>absurd hi (Nat.not_lt_zero _)⟩,by rw [hmem];rfl,?_,.of_below (Blw.refl _ _).drew⟩
  have hrd:=hr.below (Blw.refl _ _).drew
  refine ⟨hrd.defers,hrd.size.trans hn.symm,fun t _=>?_,hrd.hp⟩
  rw [z0W]
  split
  ·exact .zA _
  ·rename_i hk
   rw [ho.out t (fun e he hd=>?_)]
   ·exact hrd.fr t trivial
   ·obtain ⟨i,hi⟩:=List.mem_iff_getElem?.1 he
    obtain ⟨o,f⟩:=e
    obtain ⟨h1,h2⟩:=z1E hi
    simp only at hd
    refine hk ⟨by rw [hn];exact dsts h1 hd,?_⟩
    cases h3:known lh (Array.replicate l.toArray.size false) t with
    | false=>rfl
    | true =>
     simp only [known,List.all_eq_true,List.mem_range,Bool.or_eq_true] at h3
     rcases h3 i (List.getElem?_eq_some_iff.1 h1).1 with h3|h3
     ·simp [h1,hd] at h3
     ·rw [getD_replicate_false] at h3;cases h3
 refine z2L (n:=n) (g:=l.toArray.size-n) I (fun _ _ _ ⟨_,_,_,hinv,_⟩=>hinv) (fun listed inv h0=>z4m hnle hdep htail inv h0) ?_ ?_ _ _ _ _ ?_ hstart
 ·-- a step
  intro listed a' w' i ⟨j,hj,loc',hinv,hjm,hwr,hhj,hrel,hext⟩ hin hrdy
  have hsl:listed.size=l.length:=by rw [hinv.size];simp
  have hcl:=hclo hinv
  obtain ⟨hun,o,hio',hall⟩:=mem_ready.1 hrdy
  have hio:lh[i]? = some o:=hback i o hin hio'
  have hil:i<l.length:=by have:=(Array.getElem?_eq_some_iff.1 hio').1;simpa using this
  have hun' : ¬ listed.getD i false=true:=fun e=>by
   have hlt:i<listed.size:=by omega
   simp [hlt] at e hun;rw [e] at hun;cases hun
  obtain ⟨f,hf,hc⟩:=z1j hB hio
  have hzip:(lh.zip fl)[i]? = some (o,f):=by rw [List.getElem?_zip_eq_some];exact ⟨hio,hf⟩
  simp only [z2e,Bool.and_eq_true,List.all_eq_true] at hc
  obtain ⟨_,_,_,_,hc5⟩:=hc
  have hlk:=looks (hj:=hj) hio hrdy
  unfold wpOp
  rw [hio']
  cases f with
  | some lh =>
   obtain ⟨lo,hi⟩:=lh
   simp only [Bool.and_eq_true,Bool.or_eq_true,decide_eq_true_eq,List.any_eq_true,List.mem_range,beq_iff_eq] at hc5
   obtain ⟨c1,c2⟩:=hc5
   have hlo:lo≤j:=by
    rcases c1 with c1|⟨k,_,k1,k2,k3⟩
    ·omega
    ·have:=(hwr k (z1u k1)).1 (ready hrdy k3)
     omega
   have hhi:j≤hi:=by
    rcases c2 with c2|⟨k,_,k1,k2,k3⟩
    ·omega
    ·refine Nat.le_of_not_lt fun hlt=>hun' (hcl k i ((hwr k (z1u k1)).2 (by omega)) k3)
   obtain ⟨d,hd⟩:=hfit.dst _ (List.mem_of_getElem? hzip) rfl
   simp only at hd
   have hgok:=ho.val i o lo hi hzip d hd j hj hlo hhi hhj
   have hrl:Rel (Go.Proofs.YtdlgoofjechocaaGreatDoor.looks l.toArray o) L ⟨fin.fr,hj.1,fin.n,hj.2⟩ loc' a' w':=⟨hrel.defers,hrel.size,fun t ht=>by have:=hrel.fr t trivial;rw [hlk t ht] at this;exact this,hrel.hp⟩
   have after : ∀ {v:Value} {w2:World},Blw w'.heap.size w' w2→AR hj.2 (Dm L loc') loc' w2 (fin.get d) v→I (listed.setIfInBounds i true) (a'.put o.dst v) w2:=by
    intro v w2 hb hav
    refine ⟨j,hj,loc',hinv.set hrdy hin,hjm,fun k hk=>?_,hhj,?_,hext.trans (.of_below hb)⟩
    ·have hne:i ≠ k:=fun e=>by subst e;rw [hf] at hk;cases hk
     rw [getD_set_ne false hne];exact hwr k hk
    ·refine toMid (av:=fin.get d) hio (by omega) (by simp [dav,hd]) ?_
     exact (hrel.below hb).put' (fun t ht=>by show t<fin.n;rw [hn];exact dsts hio ht) hav
   unfold GOK at hgok
   split at hgok
   ·rename_i hg
    have hw:Region.wanted o (yielded l.toArray a'.tmps)=true:=by simp [Region.wanted,hg]
    simp only [hw,if_true]
    refine .inl ?_
    unfold Oper.wp
    rcases hgok L loc' a' w' hrl with ⟨v,w2,h1,h2,h3⟩|⟨g,args,h1,h2⟩
    ·rw [h1];exact after h2 h3
    ·rw [h1]
     refine h2.mono fun e w2 ⟨v,he,hb,hav⟩=>?_
     subst he
     exact after hb hav
   ·rename_i g want hg
    rcases hgok with ⟨t,b,ht,hb,h3,h4⟩|⟨t,ht,hb,h4⟩
    rotate_left
    ·have htm:t ∈ o.looksAt l.toArray:=List.mem_append.2 (.inr (by rw [hg];simp only [ht];simp))
     have hw:=z3Z hrl htm hg ht hb
     simp only [hw,Bool.false_eq_true,if_false]
     exact after (Blw.refl _ _) (by rw [h4];exact .tup [] #[] rfl (fun j x hx=>by simp at hx))
    have htm:t ∈ o.looksAt l.toArray:=List.mem_append.2 (.inr (by rw [hg];simp only [ht];simp))
    have hbt:=z1g hrl (t:=t) (b:=b) htm hb
    have hwt:Region.wanted o (yielded l.toArray a'.tmps)=(b==want):=by
     simp only [Region.wanted,hg,yielded,ht,hbt,Option.bind_some]
     cases b <;> cases want <;> rfl
    by_cases e:b=want
    ·have hw:Region.wanted o (yielded l.toArray a'.tmps)=true:=by rw [hwt];simpa using e
     simp only [hw,if_true]
     refine .inl ?_
     unfold Oper.wp
     rcases h3 e L loc' a' w' hrl with ⟨v,w2,h1,h2,h3⟩|⟨g,args,h1,h2⟩
     ·rw [h1];exact after h2 h3
     ·rw [h1]
      refine h2.mono fun e w2 ⟨v,he,hb,hav⟩=>?_
      subst he
      exact after hb hav
    ·have hw:Region.wanted o (yielded l.toArray a'.tmps)=false:=by rw [hwt];simpa using e
     simp only [hw,Bool.false_eq_true,if_false]
     exact after (Blw.refl _ _) (by rw [h4 e];exact .tup [] #[] rfl (fun j x hx=>by simp at hx))
  | none =>
   simp only [Bool.and_eq_true,Bool.or_eq_true,decide_eq_true_eq,List.any_eq_true,List.mem_range,beq_iff_eq] at hc5
   obtain ⟨c1,c2⟩:=hc5
   have hge : ¬ rkf fl i<j:=fun e=>hun' ((hwr i hf).2 e)
   have hj' : rkf fl i=j:=by
    rcases c2 with c2|⟨k,_,k1,k2,k3⟩
    ·omega
    ·have hk3:listed.getD k false=true:=by
      simp only [z8L,Bool.or_eq_true,List.any_eq_true,Bool.and_eq_true] at k3
      rcases k3 with k3|⟨j',_,j1,j2⟩
      ·exact ready hrdy k3
      ·exact hcl j' k (ready hrdy j1) j2
     have:=(hwr k (z1u k1)).1 hk3
     omega
   obtain ⟨h1,h2,e1,e2,hwe⟩:=ho.wr i o hzip
   rw [z4T i hlen] at e1 e2
   simp only [List.length_nil,Nat.zero_add,hj'] at e1 e2
   rw [hhj] at e1;cases e1
   have hg:o.guard=none:=by simpa using c1
   have hw:Region.wanted o (yielded l.toArray a'.tmps)=true:=by simp [Region.wanted,hg]
   simp only [hw,if_true]
   refine .inl ?_
   have:=hwe (midS lh fin listed hj) rfl rfl rfl hlk (fun t ht=>by show t<fin.n;rw [hn];exact dsts hio ht) L loc' a' w' hrel
   refine z2D (fun a2 w2 ⟨loc2,hr2,hx2⟩=>?_) (fun _ _ _ h=>h.elim) this
   refine ⟨j+1,h2,loc2,hinv.set hrdy hin,by have:=rkf_lt hf;omega,fun k hk=>?_,e2,?_,hext.trans hx2⟩
   ·by_cases e:i=k
    ·subst e
     have hlt:i<listed.size:=by omega
     simp [hlt];omega
    ·rw [getD_set_ne false e,hwr k hk]
     have:rkf fl k ≠ j:=fun e'=>e (rkf_inj hf hk (hj'.trans e'.symm))
     omega
   ·exact toMid (av:=dav o fin) hio (by omega) rfl hr2
 ·-- the tail
  intro listed a' w' ⟨j,hj,loc',hinv,hjm,hwr,hhj,hrel,hext⟩ h0 f hf
  have hl:=z3k hinv h0
  have all : ∀ i,i<lh.length→listed.getD i false=true:=by
   intro i hi
   rw [hl]
   have:i<l.length:=by simp at hnle;omega
   simp [z1f,this];omega
  have hjl:j=rkf fl fl.length:=by
   simp only [z5F,Bool.and_eq_true,Bool.or_eq_true,decide_eq_true_eq,List.any_eq_true,List.mem_range,beq_iff_eq] at hB
   rcases hB.2.1 with h0|⟨i,h1,h2,h3⟩
   ·omega
   ·have:=(hwr i (z1u h2)).1 (all i (by omega))
    omega
  have hlast:hj=(fin.hp,fin.N):=by
   have h1:=ho.last
   rw [List.getLast?_eq_getElem?,hpl] at h1
   rw [hjl] at hhj
   simp only [Nat.add_sub_cancel] at h1
   rw [h1] at hhj
   exact (Option.some.inj hhj).symm
  subst hlast
  have hrf:Rel All L fin loc' a' w':=⟨hrel.defers,hrel.size,fun t _=>by
   have hk:known lh listed t=true:=by
    simp only [known,List.all_eq_true,List.mem_range,Bool.or_eq_true]
    exact fun i hi => .inr (all i hi)
   have h1:=hrel.fr t trivial
   rw [z0W,if_neg (by rw [hk];simp)] at h1
   exact h1,hrel.hp⟩
  have hTL:TL P l.toArray (NQ Q) (l.drop n) fin:=WLW.sound (by rw [show NQ Q .normal=Q .normal from funext (NQ.normal Q)];simpa using hq)
  have hwl:=z0s (fun _ _ _ k=>k.ext hext) (l.drop n) a' w' (hTL L loc' a' w' hrf)
  have hdl:(l.drop n).length=l.toArray.size-n:=by simp
  have:=wpAny_of_seq (md := .any) (Q':=z10 L loc w (NQ Q)) (l.drop n) n listed a' w' (fun j=>by simp [List.getElem?_drop]) (by rw [hdl,hl];exact hseq) hwl
  rw [hdl] at this
  have h2:=z2Q _ (f-(l.toArray.size-n)) _ _ _ this
  rwa [show l.toArray.size-n+(f-(l.toArray.size-n))=f by omega] at h2
 ·-- the fuel
  have:qy (Array.replicate l.toArray.size false) n≤n:=by
   unfold qy
   exact Nat.le_trans (List.length_filter_le _ _) (by simp)
  omega
inductive AVles:List AV→List AV→Prop
 | nil:AVles [] []
 | cons {x y:AV} {xs ys:List AV} (h:AVle x y) (k:AVles xs ys):AVles (x :: xs) (y :: ys)
theorem AVles.refl : ∀ xs,AVles xs xs
 | [] => .nil
 | x :: xs => .cons (AVle.refl x) (AVles.refl xs)
theorem AVles.at' {xs ys:List AV} (h:AVles xs ys):ys.length=xs.length ∧ ∀ (j:Nat) y,ys[j]? = some y → ∃ x,xs[j]? = some x∧AVle x y:=by
 induction h with
 | nil=>exact ⟨rfl,fun j y h=>by simp at h⟩
 | cons h _ ih =>
  refine ⟨by simp [ih.1],fun j y hy=>?_⟩
  cases j with
  | zero=>simp at hy;subst hy;exact ⟨_,rfl,h⟩
  | succ j=>obtain ⟨x,h1,h2⟩:=ih.2 j y (by simpa using hy);exact ⟨x,by simpa using h1,h2⟩
theorem zx.args {P:Program} {f:FuncId} {xs ys:List AV} {r:AV} (h:zx P f ys r) (k:AVles xs ys):zx P f xs r:=fun L w vs hL hvs=>h L w vs hL ⟨hvs.1.trans k.at'.1.symm,fun j y v hy hv=>by
 obtain ⟨x,h1,h2⟩:=k.at'.2 j y hy
 exact h2 _ _ _ _ _ (hvs.2 j x v h1 hv)⟩
theorem z8u.args {P:Program} {f:FuncId} {xs ys:List AV} {r:PV} (h:z8u P f ys r) (k:AVles xs ys):z8u P f xs r:=fun L w vs hL hvs=>h L w vs hL ⟨hvs.1.trans k.at'.1.symm,fun j y v hy hv=>by
 obtain ⟨x,h1,h2⟩:=k.at'.2 j y hy
 exact h2 _ _ _ _ _ (hvs.2 j x v h1 hv)⟩
theorem ams:(∀ (fr:List (Nat × AV)) (hp:Hp) (n N t:Nat),ASt.get { fr:=fr,hp:=hp,n:=n,N:=N } t=Option.getD (List.lookup t fr) AV.zA) ∧
  (∀ (fr:List (Nat × AV)) (hp:Hp) (n N t:Nat) (x:AV),ASt.put { fr:=fr,hp:=hp,n:=n,N:=N } (some t) x = { fr:=(t,x) :: fr,hp:=hp,n:=n,N:=N }) ∧
  (∀ (s:ASt) (x:AV),ASt.put s none x=s) ∧
  (∀ {α:Type} (t:Nat),List.lookup t ([] : List (Nat × α))=none) ∧
  (∀ {α:Type} (t k:Nat) (x : α) (l:List (Nat × α)),List.lookup t ((k,x) :: l)=if t=k then some x else List.lookup t l) ∧
  (∀ (k:IntKind) (n:Int),cv (Value.int k n)=AV.p (PV.val (Value.int k n))) ∧
  (∀ (b:Bool),cv (Value.bool b)=AV.p (PV.val (Value.bool b))) ∧
  (∀ (a:Option Addr) (n c:Nat),cv (Value.slice a n c)=AV.p (PV.val (Value.slice a n c))) ∧
  (∀ (s:ByteArray),cv (Value.string s)=AV.p (PV.val (Value.string s))) ∧
  (∀ (a:Option Addr),cv (Value.pointer a)=AV.p (PV.val (Value.pointer a))) ∧
  (∀ {α β:Type} {f : α → β} {a : α} {l:List α},List.map f (a :: l)=f a :: List.map f l) ∧
  (∀ {α β:Type} {f : α → β},List.map f ([] : List α)=([] : List β)) ∧
  (∀ {α:Type} {a : α} {l:List α},(a :: l)[0]? = some a) ∧
  (∀ {α:Type} {a : α} {i:Nat} {l:List α},(a :: l)[i+1]? = l[i]?) ∧
  (∀ {α:Type} {a b : α},Option.getD (some a) b=a) ∧
  (∀ {α:Type} {a : α},Option.getD none a=a) ∧
  (∀ {α β:Type} (a : α) (f : α → β),Option.map f (some a)=some (f a)) ∧
  (∀ {α β:Type} (f : α → β),Option.map f none=none) ∧
  (∀ {α:Type} {x:Decidable True} (t e : α),(if True then t else e)=t) ∧
  (∀ {α:Type} {x:Decidable False} (t e : α),(if False then t else e)=e) ∧
  (∀ (p:Prop),(True∧p)=p) ∧
  (∀ (p:Prop),(p∧True)=p) ∧
  ((!true)=false) ∧
  ((!false)=true) ∧
  ((true=false)=False) ∧
  ((false=true)=False) ∧
  (∀ (p:Prop),(True→p)=p) ∧
  (∀ (p:Prop),(False→p)=True) ∧
  (∀ {α:Type} {a : α} {l1:List α},List.length (a :: l1)=List.length l1+1) ∧
  (∀ {α:Type},List.length ([] : List α)=0) ∧
  (∀ {α:Type} {a : α} {l1:List α} {i:Nat},List.take (i+1) (a :: l1)=a :: List.take i l1) ∧
  (∀ {α:Type} {l:List α},List.take 0 l=([] : List α)) ∧
  (∀ {α:Type} {a : α} {l:List α} {i:Nat},List.drop (i+1) (a :: l)=List.drop i l) ∧
  (∀ {α:Type} {l:List α},List.drop 0 l=l) ∧
  (∀ {α:Type} {a : α} {l1 bs:List α},a :: l1++bs=a :: (l1++bs)) ∧
  (∀ {α:Type} (l1:List α),[]++l1=l1) ∧
  (∀ {α:Type} {i:Nat},List.take i ([] : List α)=([] : List α)) ∧
  (∀ {α:Type} {i:Nat},List.drop i ([] : List α)=([] : List α)) ∧
  (∀ (n:Nat),0+n=n) ∧
  (∀ (n:Nat),n+0=n) ∧
  (∀ (n:Nat),n≤n) ∧
  (∀ (n:Nat),0≤n) ∧
  (∀ {α:Type} (l1:List α),l1 ++ []=l1) ∧
  (∀ {α:Type} {x : α} {xs:List α} {d : α},List.getD (x :: xs) 0 d=x) ∧
  (∀ {α:Type} {x : α} {xs:List α} {n:Nat} {d : α},List.getD (x :: xs) (n+1) d=List.getD xs n d) ∧
  (∀ (n:Nat),Int.toNat (n:Int)=n) ∧
  (Int.toNat 0=0) ∧
  (∀ {α β:Type} {l1:List α} (f : α → β),List.length (List.map f l1)=List.length l1) ∧
  (∀ {α β:Type} {f : α → β} {l:List α} {i:Nat},(List.map f l)[i]? = Option.map f l[i]?) ∧
  (∀ (n:Nat),(0:Int)≤(n:Int)) ∧
  (∀ (t:Nat) (y:AV) (pin:Option Nat) (ty:TypeId) (cs:List AV),AO.sub t y (AO.boxP pin ty cs)=AO.boxP pin ty (List.map (AV.sub t y) cs)) ∧
  (∀ (t:Nat) (y:AV) (e n:Nat) (rows:List (List PV)),AO.sub t y (AO.row e n rows)=AO.row e n rows) ∧
  (∀ (t:Nat) (y:AV) (pin:Option Nat) (P:Program) (k n:Nat) (f:Lit→Option Value),AO.sub t y (AO.map pin P k n f)=AO.map pin P k n f) ∧
  (∀ (t:Nat) (y:AV) (u:Value) (ob:Obj),AO.sub t y (AO.raw u ob)=AO.raw u ob) ∧
  (∀ (t:Nat) (y:AV) (l:Nat) (sp:LSpec) (fr:List (Nat × AV)),AO.sub t y (AO.lrec l sp fr)=AO.lrec l sp (List.map (fun (p:Nat × AV)=>(Prod.fst p,AV.sub t y (Prod.snd p))) fr)) ∧
  (∀ (t:Nat) (y:AV) (e:Nat) (cs:List AV),AO.sub t y (AO.arow e cs)=AO.arow e (List.map (AV.sub t y) cs)) ∧
  (∀ (t:Nat) (y:AV) (x:PV),AV.sub t y (AV.p x)=AV.p x) ∧
  (∀ (t:Nat) (y:AV) (r:List PV) (k:Nat),AV.sub t y (AV.elt r k)=AV.elt r k) ∧
  (∀ (t:Nat) (y:AV) (k j:Nat),AV.sub t y (AV.ptr k j)=if k=t then AV.zA else AV.ptr k j) ∧
  (∀ (t:Nat) (y:AV) (k n i j:Nat),AV.sub t y (AV.rptr k n i j)=if k=t then AV.zA else AV.rptr k n i j) ∧
  (∀ (t:Nat) (y:AV) (k:Nat),AV.sub t y (AV.own k)=if k=t then y else AV.own k) ∧
  (∀ (t:Nat) (y:AV),AV.sub t y AV.zA=AV.zA) ∧
  (∀ (t:Nat) (y:AV),AV.sub t y AV.cap0=AV.cap0) ∧
  (∀ (t:Nat) (y:AV) (cs:List AV),AV.sub t y (AV.agg cs)=AV.agg (List.map (AV.sub t y) cs)) ∧
  (∀ (t:Nat) (y:AV) (f:Fn) (cs:List AV),AV.sub t y (AV.fn f cs)=AV.fn f (List.map (AV.sub t y) cs)) ∧
  (∀ (t:Nat) (y:AV) (cs:List AV),AV.sub t y (AV.tup cs)=AV.tup (List.map (AV.sub t y) cs)) ∧
  (∀ (t:Nat) (y:AV) (k m:Nat),AV.sub t y (AV.pre k m)=if k=t then AV.zA else AV.pre k m) :=
 ⟨@get_mk,@qJ,@z8J,@qP,@zy,@cv_int,@cv_bool,@cv_slice,@cv_string,@cv_ptr,@List.map_cons.{0,0},@List.map_nil.{0,0},@List.getElem?_cons_zero.{0},@List.getElem?_cons_succ.{0},@Option.getD_some.{0},@Option.getD_none.{0},@Option.map_some.{0,0},@Option.map_none.{0,0},@if_true.{1},@if_false.{1},@true_and,@and_true,@Bool.not_true,@Bool.not_false,@Bool.true_eq_false,@Bool.false_eq_true,@true_implies,@false_implies,@List.length_cons.{0},@List.length_nil.{0},@List.take_succ_cons.{0},@List.take_zero.{0},@List.drop_succ_cons.{0},@List.drop_zero.{0},@List.cons_append.{0},@List.nil_append.{0},@List.take_nil.{0},@List.drop_nil.{0},@Nat.zero_add,@Nat.add_zero,@Nat.le_refl,@Nat.zero_le,@List.append_nil.{0},@List.getD_cons_zero.{0},@List.getD_cons_succ.{0},@Int.toNat_natCast,Int.toNat_zero,@List.length_map.{0,0},@List.getElem?_map.{0,0},@Int.natCast_nonneg,@AO.z4c,@AO.z5v,@AO.z6J,@AO.z6k,@AO.z3G,@AO.z3W,@AV.z9C,@AV.z6i,@AV.z5a,@AV.z4A,@AV.z4a,@AV.z3H,@AV.z4L,@AV.z4l,@AV.z5K,@AV.z3i,@AV.sub_pre⟩
theorem wks:(∀ {α:Type} {b : α} {l:List α} {a : α},a ∈ b :: l↔a=b∨a ∈ l) ∧
  (∀ {α:Type} {a : α},¬a ∈ ([] : List α)) ∧
  (∀ (p:Prop),(p∨False)=p) ∧
  (∀ {α:Type} {a' : α} {P Q : α→Prop},(∀ (a : α),a=a' ∨ Q a→P a)↔P a' ∧ ∀ (a : α),Q a→P a) ∧
  (∀ {α:Type} {p : α→Prop} {a' : α},(∀ (a : α),a=a' → p a)↔p a') ∧
  (∀ (fr:List (Nat × AV)) (hp:Hp) (n N t:Nat),ASt.get { fr:=fr,hp:=hp,n:=n,N:=N } t=Option.getD (List.lookup t fr) AV.zA) ∧
  (∀ {α:Type} (t k:Nat) (x : α) (l:List (Nat × α)),List.lookup t ((k,x) :: l)=if t=k then some x else List.lookup t l) ∧
  (∀ {α:Type} (t:Nat),List.lookup t ([] : List (Nat × α))=none) ∧
  (∀ {α:Type} {a b : α},Option.getD (some a) b=a) ∧
  (∀ {α:Type} {a : α},Option.getD none a=a) ∧
  (∀ (x:AV),AVle x x=True) ∧
  (∀ (n:Nat),AVle (AV.p (PV.val (Value.slice none 0 0))) (AV.p (PV.seq n []))=True) ∧
  (∀ (k:IntKind) (a b:Int),AVle (AV.p (PV.val (Value.int k a))) (AV.p (PV.val (Value.int k b)))=(a=b)) ∧
  (∀ (a b:Bool),AVle (AV.p (PV.val (Value.bool a))) (AV.p (PV.val (Value.bool b)))=(a=b)) ∧
  (∀ (x:AV),AVle x AV.zA=True) ∧
  (∀ (n:Nat) (pin:Option Nat) (ty:TypeId) (cs:List AV),AO.okB n (AO.boxP pin ty cs)=List.all cs (AV.okB n)) ∧
  (∀ (n e m:Nat) (rows:List (List PV)),AO.okB n (AO.row e m rows)=true) ∧
  (∀ (n:Nat) (pin:Option Nat) (P:Program) (k m:Nat) (f:Lit→Option Value),AO.okB n (AO.map pin P k m f)=true) ∧
  (∀ (n:Nat) (u:Value) (ob:Obj),AO.okB n (AO.raw u ob)=true) ∧
  (∀ (n l:Nat) (sp:LSpec) (fr:List (Nat × AV)),AO.okB n (AO.lrec l sp fr)=List.all fr fun (p:Nat × AV)=>AV.okB n (Prod.snd p)) ∧
  (∀ (n e:Nat) (cs:List AV),AO.okB n (AO.arow e cs)=List.all cs (AV.okB n)) ∧
  (∀ (n:Nat) (cs:List AV),AV.okB n (AV.agg cs)=List.all cs (AV.okB n)) ∧
  (∀ (n:Nat) (cs:List AV),AV.okB n (AV.tup cs)=List.all cs (AV.okB n)) ∧
  (∀ (n:Nat) (f:Fn) (cs:List AV),AV.okB n (AV.fn f cs)=List.all cs (AV.okB n)) ∧
  (∀ {α:Type} {a : α} {l:List α} {f : α→Bool},List.all (a :: l) f=(f a&&List.all l f)) ∧
  (∀ {α:Type} {f : α→Bool},List.all ([] : List α) f=true) ∧
  (∀ (b:Bool),(b&&b)=b) ∧
  (∀ (b:Bool),(b&&true)=b) ∧
  (∀ (b:Bool),(true&&b)=b) ∧
  (∀ (h:Decidable True),@decide True h=true) ∧
  (∀ (p:Prop),(True∧p)=p) ∧
  (∀ (p:Prop),(p∧True)=p) ∧
  (∀ (p:Prop),(False→p)=True) :=
 ⟨@List.mem_cons.{0},@List.not_mem_nil.{0},@or_false,@forall_eq_or_imp.{1},@forall_eq.{1},@get_mk,@zy,@qP,@Option.getD_some.{0},@Option.getD_none.{0},@AVle_refl,@AVle_nil,@AVle_int,@AVle_bool,@AVle_junk,@AO.z1I,@AO.okB_row,@AO.okB_map,@AO.okB_raw,@AO.z3s,@AO.z4I,@AV.z0b,@AV.z4P,@AV.z1b,@List.all_cons.{0},@List.all_nil.{0},@Bool.and_self,@Bool.and_true,@Bool.true_and,@decide_true,@true_and,@and_true,@false_implies⟩
set_option linter.defProp false in
def amz := And.intro @WS.eq_1 (And.intro @WH.eq_1 (And.intro @WO.eq_1 (And.intro @WOv.eq_1 (And.intro @WG.eq_1 (And.intro @z4f.eq_1 (And.intro @hasDst.eq_1 (And.intro @aop.eq_1 (And.intro @aop.eq_2 (And.intro @aop.eq_3 (And.intro @aop.eq_4 (And.intro @aop.eq_5 (And.intro @aop.eq_6 (And.intro @aop.eq_7 (And.intro @aop.eq_8 (And.intro @aop.eq_9 (And.intro @aop.eq_10 (And.intro @aop.eq_11 (And.intro @aop.eq_12 (And.intro @aop.eq_13 (And.intro @aop.eq_14 (And.intro @aop.eq_15 (And.intro @aop.eq_16 (And.intro @aop.eq_17 (And.intro @aop.eq_18 (And.intro @aop.eq_19 (And.intro @aop.eq_20 (And.intro @aop.eq_21 (And.intro @ASt.ev.eq_1 (And.intro @ASt.ev.eq_2 (And.intro @ASt.ev.eq_3 (And.intro @ASt.ev.eq_4 (And.intro @z4U.eq_1 (And.intro @z4U.eq_2 (And.intro @z4U.eq_3 (And.intro @z4U.eq_4 (And.intro @z2x.eq_1 (And.intro @z4s.eq_1 (And.intro @z4s.eq_2 (And.intro @z4s.eq_3 (And.intro @z4s.eq_4 (And.intro @z19.eq_1 (And.intro @z19.eq_2 (And.intro @z19.eq_3 (And.intro @z19.eq_4 (And.intro @z19.eq_5 (And.intro @z19.eq_6 (And.intro @z19.eq_7 (And.intro @abin.eq_1 (And.intro @abin.eq_2 (And.intro @abin.eq_3 (And.intro @abin.eq_4 (And.intro @abin.eq_5 (And.intro @abin.eq_6 (And.intro @abin.eq_7 (And.intro @abin.eq_8 (And.intro @abin.eq_9 (And.intro @abin.eq_10 (And.intro @abin.eq_11 (And.intro @abin.eq_12 (And.intro @z3m.eq_1 (And.intro @z3m.eq_2 (And.intro @z3m.eq_3 (And.intro @z3m.eq_4 (And.intro @z3m.eq_5 (And.intro @z3m.eq_6 (And.intro @z3m.eq_7 (And.intro @z3m.eq_8 (And.intro @z3m.eq_9 (And.intro @z3m.eq_10 (And.intro @z3m.eq_11 (And.intro @z3m.eq_12 (And.intro @aun.eq_1 (And.intro @aun.eq_2 (And.intro @aun.eq_3 (And.intro @alen.eq_1 (And.intro @alen.eq_2 (And.intro @alen.eq_3 (And.intro @alen.eq_4 (And.intro @alen.eq_5 (And.intro @alen.eq_6 (And.intro @z0q.eq_1 (And.intro @z0q.eq_2 (And.intro @z0q.eq_3 (And.intro @z0q.eq_4 (And.intro @z0q.eq_5 (And.intro @z0q.eq_6 (And.intro @z0q.eq_7 (And.intro @z0q.eq_8 (And.intro @z0q.eq_9 (And.intro @z0q.eq_10 (And.intro @ASt.add.eq_1 (And.intro @zF.eq_1 (And.intro @qf.eq_1 (And.intro @z9r.eq_1 (And.intro @z4x.eq_1 (And.intro @z4x.eq_2 (And.intro @z3r.eq_1 (And.intro @z7h.eq_1 (And.intro @z7h.eq_2 (And.intro @z7h.eq_3 (And.intro @chunks.eq_1 (And.intro @chunks.eq_2 (And.intro @List.range.eq_1 (And.intro @List.range.loop.eq_1 (And.intro @List.range.loop.eq_2 (And.intro @z8O.eq_1 (And.intro @z8I.eq_1 (And.intro @z4q.eq_1 (And.intro @z4q.eq_2 (And.intro @z4q.eq_3 (And.intro @z4q.eq_4 (And.intro @z4q.eq_5 (And.intro @evI.eq_1 (And.intro @evI.eq_2 (And.intro @ASt.subst.eq_1 (And.intro @AO.box.eq_1 (And.intro @aval.eq_1 (And.intro @aval.eq_2 (And.intro @aval.eq_3 (And.intro @z6O.eq_1 (And.intro @z6O.eq_2 (And.intro @z6O.eq_3 (@ams)))))))))))))))))))))))))))))))))))))))))))))))))))))))))))))))))))))))))))))))))))))))))))))))))))))))))))))))))))))))))))
abbrev c0 : Option (Nat × Nat) := some (0,0)
set_option linter.defProp false in
def pz := And.intro @List.mem_cons.{0} (And.intro @List.not_mem_nil.{0} (And.intro @or_false (And.intro @forall_eq_or_imp.{1} (And.intro @forall_eq.{1} (And.intro @zy (And.intro @qP (And.intro @AO.z1I (And.intro @AO.okB_row (And.intro @AO.okB_map (And.intro @AO.okB_raw (And.intro @AV.z0b (And.intro @AV.z1b (And.intro @AV.z4P (And.intro @List.all_cons.{0} (And.intro @List.all_nil.{0} (And.intro @Bool.and_true (And.intro @Bool.and_self (And.intro @decide_true (And.intro @true_and (And.intro @and_true (And.intro @Option.isSome_some.{0} (And.intro @true_implies (And.intro @false_implies (And.intro @implies_true.{0} (And.intro @implies_true.{1} (And.intro @and_self (And.intro @Nat.lt_irrefl (@Option.some.injEq.{0}))))))))))))))))))))))))))))
set_option linter.defProp false in
def cz := And.intro @AV.z0E (And.intro @AV.z0D (And.intro @AV.z0o (And.intro @AV.z0X (And.intro @AV.z0F (And.intro @AV.z0V (And.intro @AV.z0a (And.intro @AV.z0p (And.intro @AV.z1J (And.intro @AV.z0T (And.intro @AV.z0U (And.intro @List.map_cons.{0,0} (And.intro @List.map_nil.{0,0} (And.intro @List.filter_cons.{0} (And.intro @List.filter_nil.{0} (And.intro @decide_true (And.intro @decide_false (And.intro @Bool.false_eq_true (And.intro @List.cons_append.{0} (And.intro @List.nil_append.{0} (And.intro @List.mem_cons.{0} (And.intro @List.not_mem_nil.{0} (And.intro @or_false (And.intro @false_or (And.intro @or_true (And.intro @true_or (And.intro @qJ (And.intro @z8J (@Nat.le_refl))))))))))))))))))))))))))))
theorem tys:((tySz Tryz.prog 3=some 1)∧(zS Tryz.prog 3=some false)∧(scTy Tryz.prog 3=some 0)∧(zK Tryz.prog 3=some [Value.int IntKind.i64 0])∧(Tryz.prog.underlying 3=some (TypeDesc.int IntKind.i64))) ∧
  ((tySz Tryz.prog 4=some 1)∧(zS Tryz.prog 4=some false)∧(scTy Tryz.prog 4=some 1)∧(zK Tryz.prog 4=some [Value.bool false])∧(Tryz.prog.underlying 4=some TypeDesc.bool)) ∧
  ((tySz Tryz.prog 5=some 1)∧(zS Tryz.prog 5=some false)∧(scTy Tryz.prog 5=some 0)∧(zK Tryz.prog 5=some [Value.int IntKind.u8 0])∧(Tryz.prog.underlying 5=some (TypeDesc.int IntKind.u8))) ∧
  ((tySz Tryz.prog 9=some 1)∧(zS Tryz.prog 9=some false)∧(scTy Tryz.prog 9=some 2)∧(zK Tryz.prog 9=some [Value.string ⟨#[]⟩])∧(Tryz.prog.underlying 9=some TypeDesc.string)) ∧
  ((tySz Tryz.prog 22=some 1)∧(zS Tryz.prog 22=some false)∧(z05 Tryz.prog 22=some 9)∧(zW Tryz.prog 22=some (30,9,72))∧(zK Tryz.prog 22=some [Value.slice none 0 0])∧(isSl Tryz.prog 22=true)∧(Tryz.prog.underlying 22=some (TypeDesc.slice 30))) ∧
  ((tySz Tryz.prog 23=some 1)∧(zS Tryz.prog 23=some false)∧(z05 Tryz.prog 23=some 1)∧(zW Tryz.prog 23=some (3,1,8))∧(zK Tryz.prog 23=some [Value.slice none 0 0])∧(isSl Tryz.prog 23=true)∧(Tryz.prog.underlying 23=some (TypeDesc.slice 3))) ∧
  ((tySz Tryz.prog 25=some 2)∧(zS Tryz.prog 25=some true)∧(zK Tryz.prog 25=some [Value.bool false,Value.slice none 0 0])∧(qp Tryz.prog 25=some ([Value.bool false,Value.slice none 0 0],[(0,1),(1,1)]))∧(zJ Tryz.prog 25 0=some 0)∧(zN Tryz.prog 25 0=some (4,0))∧(zJ Tryz.prog 25 1=some 1)∧(zN Tryz.prog 25 1=some (23,1))) ∧
  ((tySz Tryz.prog 30=some 9)∧(zS Tryz.prog 30=some true)∧(zK Tryz.prog 30=some [Value.int IntKind.i64 0,Value.int IntKind.i64 0,Value.int IntKind.i64 0,Value.int IntKind.i64 0,Value.int IntKind.i64 0,Value.int IntKind.i64 0,Value.int IntKind.i64 0,Value.int IntKind.i64 0,Value.int IntKind.i64 0])∧(qp Tryz.prog 30=some ([Value.int IntKind.i64 0,Value.int IntKind.i64 0,Value.int IntKind.i64 0,Value.int IntKind.i64 0,Value.int IntKind.i64 0,Value.int IntKind.i64 0,Value.int IntKind.i64 0,Value.int IntKind.i64 0,Value.int IntKind.i64 0],[(0,1),(1,1),(2,1),(3,1),(4,1),(5,1),(6,1),(7,1),(8,1)]))∧(eqTy Tryz.prog 30=some [(0,0),(1,0),(2,0),(3,0),(4,0),(5,0),(6,0),(7,0),(8,0)])∧(zJ Tryz.prog 30 0=some 0)∧(zN Tryz.prog 30 0=some (3,0))∧(zJ Tryz.prog 30 1=some 1)∧(zN Tryz.prog 30 1=some (3,1))∧(zJ Tryz.prog 30 2=some 2)∧(zN Tryz.prog 30 2=some (3,2))∧(zJ Tryz.prog 30 3=some 3)∧(zN Tryz.prog 30 3=some (3,3))∧(zJ Tryz.prog 30 4=some 4)∧(zN Tryz.prog 30 4=some (3,4))∧(zJ Tryz.prog 30 5=some 5)∧(zN Tryz.prog 30 5=some (3,5))∧(zJ Tryz.prog 30 6=some 6)∧(zN Tryz.prog 30 6=some (3,6))∧(zJ Tryz.prog 30 7=some 7)∧(zN Tryz.prog 30 7=some (3,7))∧(zJ Tryz.prog 30 8=some 8)∧(zN Tryz.prog 30 8=some (3,8))) ∧
  ((tySz Tryz.prog 31=some 1)∧(zS Tryz.prog 31=some false)∧(scTy Tryz.prog 31=some 0)∧(zK Tryz.prog 31=some [Value.int IntKind.i64 0])∧(Tryz.prog.underlying 31=some (TypeDesc.int IntKind.i64))) ∧
  ((tySz Tryz.prog 35=some 1)∧(zS Tryz.prog 35=some false)∧(ptTy Tryz.prog 35=some true)∧(zK Tryz.prog 35=some [Value.pointer none])) ∧
  ((tySz Tryz.prog 36=some 1)∧(zS Tryz.prog 36=some false)∧(z05 Tryz.prog 36=some 1)∧(zW Tryz.prog 36=some (5,1,1))∧(zK Tryz.prog 36=some [Value.slice none 0 0])∧(isSl Tryz.prog 36=true)∧(Tryz.prog.underlying 36=some (TypeDesc.slice 5))∧(z6E Tryz.prog 36=true)) ∧
  ((tySz Tryz.prog 38=some 2)∧(zS Tryz.prog 38=some true)∧(zK Tryz.prog 38=some [Value.pointer none,Value.slice none 0 0])∧(qp Tryz.prog 38=some ([Value.pointer none,Value.slice none 0 0],[(0,1),(1,1)]))∧(zJ Tryz.prog 38 0=some 0)∧(zN Tryz.prog 38 0=some (35,0))∧(zJ Tryz.prog 38 1=some 1)∧(zN Tryz.prog 38 1=some (36,1))) ∧
  ((tySz Tryz.prog 46=some 1)∧(zS Tryz.prog 46=some false)∧(z05 Tryz.prog 46=some 1)∧(zW Tryz.prog 46=some (23,1,24))∧(zK Tryz.prog 46=some [Value.slice none 0 0])∧(isSl Tryz.prog 46=true)∧(Tryz.prog.underlying 46=some (TypeDesc.slice 23))) ∧
  ((tySz Tryz.prog 51=some 1)∧(zS Tryz.prog 51=some false)∧(zK Tryz.prog 51=some [Value.nilFunc])) ∧
  ((tySz Tryz.prog 54=some 1)∧(zS Tryz.prog 54=some false)∧(z05 Tryz.prog 54=some 1)∧(zW Tryz.prog 54=some (4,1,1))∧(zK Tryz.prog 54=some [Value.slice none 0 0])∧(isSl Tryz.prog 54=true)∧(Tryz.prog.underlying 54=some (TypeDesc.slice 4))) ∧
  ((z88 Tryz.prog 57=some (21,1))∧(tySz Tryz.prog 57=some 21)∧(zS Tryz.prog 57=some true)∧(elemA Tryz.prog 57=some (9,1,21))∧(zK Tryz.prog 57=some [Value.string ⟨#[]⟩,Value.string ⟨#[]⟩,Value.string ⟨#[]⟩,Value.string ⟨#[]⟩,Value.string ⟨#[]⟩,Value.string ⟨#[]⟩,Value.string ⟨#[]⟩,Value.string ⟨#[]⟩,Value.string ⟨#[]⟩,Value.string ⟨#[]⟩,Value.string ⟨#[]⟩,Value.string ⟨#[]⟩,Value.string ⟨#[]⟩,Value.string ⟨#[]⟩,Value.string ⟨#[]⟩,Value.string ⟨#[]⟩,Value.string ⟨#[]⟩,Value.string ⟨#[]⟩,Value.string ⟨#[]⟩,Value.string ⟨#[]⟩,Value.string ⟨#[]⟩])∧(z6q Tryz.prog 57=some ([Value.string ⟨#[]⟩,Value.string ⟨#[]⟩,Value.string ⟨#[]⟩,Value.string ⟨#[]⟩,Value.string ⟨#[]⟩,Value.string ⟨#[]⟩,Value.string ⟨#[]⟩,Value.string ⟨#[]⟩,Value.string ⟨#[]⟩,Value.string ⟨#[]⟩,Value.string ⟨#[]⟩,Value.string ⟨#[]⟩,Value.string ⟨#[]⟩,Value.string ⟨#[]⟩,Value.string ⟨#[]⟩,Value.string ⟨#[]⟩,Value.string ⟨#[]⟩,Value.string ⟨#[]⟩,Value.string ⟨#[]⟩,Value.string ⟨#[]⟩,Value.string ⟨#[]⟩],1,21))∧(qp Tryz.prog 57=none)) ∧
  ((tySz Tryz.prog 58=some 1)∧(zS Tryz.prog 58=some false)∧(z05 Tryz.prog 58=some 1)∧(zW Tryz.prog 58=some (9,1,16))∧(zK Tryz.prog 58=some [Value.slice none 0 0])∧(isSl Tryz.prog 58=true)∧(Tryz.prog.underlying 58=some (TypeDesc.slice 9))) ∧
  ((tySz Tryz.prog 61=some 1)∧(zS Tryz.prog 61=some false)∧(scTy Tryz.prog 61=some 0)∧(zK Tryz.prog 61=some [Value.int IntKind.u64 0])∧(Tryz.prog.underlying 61=some (TypeDesc.int IntKind.u64))) ∧
  ((tySz Tryz.prog 62=some 1)∧(zS Tryz.prog 62=some false)∧(z05 Tryz.prog 62=some 3)∧(zW Tryz.prog 62=some (66,3,24))∧(zK Tryz.prog 62=some [Value.slice none 0 0])∧(isSl Tryz.prog 62=true)∧(Tryz.prog.underlying 62=some (TypeDesc.slice 66))) ∧
  ((tySz Tryz.prog 66=some 3)∧(zS Tryz.prog 66=some true)∧(zK Tryz.prog 66=some [Value.int IntKind.i64 0,Value.int IntKind.i64 0,Value.int IntKind.i64 0])∧(qp Tryz.prog 66=some ([Value.int IntKind.i64 0,Value.int IntKind.i64 0,Value.int IntKind.i64 0],[(0,1),(1,1),(2,1)]))∧(eqTy Tryz.prog 66=some [(0,0),(1,0),(2,0)])∧(zJ Tryz.prog 66 0=some 0)∧(zN Tryz.prog 66 0=some (3,0))∧(zJ Tryz.prog 66 1=some 1)∧(zN Tryz.prog 66 1=some (3,1))∧(zJ Tryz.prog 66 2=some 2)∧(zN Tryz.prog 66 2=some (3,2))) ∧
  ((z88 Tryz.prog 71=some (7,1))∧(tySz Tryz.prog 71=some 7)∧(zS Tryz.prog 71=some true)∧(elemA Tryz.prog 71=some (3,1,7))∧(zK Tryz.prog 71=some [Value.int IntKind.i64 0,Value.int IntKind.i64 0,Value.int IntKind.i64 0,Value.int IntKind.i64 0,Value.int IntKind.i64 0,Value.int IntKind.i64 0,Value.int IntKind.i64 0])∧(z6q Tryz.prog 71=some ([Value.int IntKind.i64 0,Value.int IntKind.i64 0,Value.int IntKind.i64 0,Value.int IntKind.i64 0,Value.int IntKind.i64 0,Value.int IntKind.i64 0,Value.int IntKind.i64 0],1,7))∧(qp Tryz.prog 71=none)) ∧
  ((tySz Tryz.prog 79=some 1)∧(zS Tryz.prog 79=some false)∧(zK Tryz.prog 79=some [Value.nilFunc])) ∧
  ((tySz Tryz.prog 81=some 1)∧(zS Tryz.prog 81=some false)∧(zK Tryz.prog 81=some [Value.nilFunc])) ∧
  ((tySz Tryz.prog 90=some 1)∧(zS Tryz.prog 90=some false)∧(z18 Tryz.prog 90=some (3,3,Value.int IntKind.i64 0))∧(zK Tryz.prog 90=some [Value.map none])∧(Tryz.prog.underlying 90=some (TypeDesc.map 3 3))) ∧
  ((tySz Tryz.prog 91=some 1)∧(zS Tryz.prog 91=some false)∧(z18 Tryz.prog 91=some (94,23,Value.slice none 0 0))∧(zK Tryz.prog 91=some [Value.map none])∧(Tryz.prog.underlying 91=some (TypeDesc.map 94 23))) ∧
  ((tySz Tryz.prog 92=some 1)∧(zS Tryz.prog 92=some false)∧(z18 Tryz.prog 92=some (94,3,Value.int IntKind.i64 0))∧(zK Tryz.prog 92=some [Value.map none])∧(Tryz.prog.underlying 92=some (TypeDesc.map 94 3))) ∧
  ((tySz Tryz.prog 94=some 2)∧(zS Tryz.prog 94=some true)∧(zK Tryz.prog 94=some [Value.int IntKind.i64 0,Value.int IntKind.i64 0])∧(qp Tryz.prog 94=some ([Value.int IntKind.i64 0,Value.int IntKind.i64 0],[(0,1),(1,1)]))∧(eqTy Tryz.prog 94=some [(0,0),(1,0)])∧(zJ Tryz.prog 94 0=some 0)∧(zN Tryz.prog 94 0=some (3,0))∧(zJ Tryz.prog 94 1=some 1)∧(zN Tryz.prog 94 1=some (3,1))) ∧
  ((tySz Tryz.prog 98=some 1)∧(zS Tryz.prog 98=some false)∧(scTy Tryz.prog 98=some 0)∧(zK Tryz.prog 98=some [Value.int IntKind.u64 0])∧(Tryz.prog.underlying 98=some (TypeDesc.int IntKind.u64))) ∧
  ((tySz Tryz.prog 102=some 1)∧(zS Tryz.prog 102=some false)∧(scTy Tryz.prog 102=some 0)∧(zK Tryz.prog 102=some [Value.int IntKind.u32 0])∧(Tryz.prog.underlying 102=some (TypeDesc.int IntKind.u32))) ∧
  ((tySz Tryz.prog 105=some 1)∧(zS Tryz.prog 105=some false)∧(z05 Tryz.prog 105=some 5)∧(zW Tryz.prog 105=some (138,5,40))∧(zK Tryz.prog 105=some [Value.slice none 0 0])∧(isSl Tryz.prog 105=true)∧(Tryz.prog.underlying 105=some (TypeDesc.slice 138))) ∧
  ((tySz Tryz.prog 106=some 1)∧(zS Tryz.prog 106=some false)∧(z05 Tryz.prog 106=some 4)∧(zW Tryz.prog 106=some (143,4,32))∧(zK Tryz.prog 106=some [Value.slice none 0 0])∧(isSl Tryz.prog 106=true)∧(Tryz.prog.underlying 106=some (TypeDesc.slice 143))) ∧
  ((tySz Tryz.prog 107=some 1)∧(zS Tryz.prog 107=some false)∧(z05 Tryz.prog 107=some 2)∧(zW Tryz.prog 107=some (147,2,16))∧(zK Tryz.prog 107=some [Value.slice none 0 0])∧(isSl Tryz.prog 107=true)∧(Tryz.prog.underlying 107=some (TypeDesc.slice 147))) ∧
  ((tySz Tryz.prog 108=some 1)∧(zS Tryz.prog 108=some false)∧(z05 Tryz.prog 108=some 3)∧(zW Tryz.prog 108=some (135,3,24))∧(zK Tryz.prog 108=some [Value.slice none 0 0])∧(isSl Tryz.prog 108=true)∧(Tryz.prog.underlying 108=some (TypeDesc.slice 135))) ∧
  ((tySz Tryz.prog 110=some 9)∧(zS Tryz.prog 110=some true)∧(zK Tryz.prog 110=some [Value.int IntKind.i64 0,Value.int IntKind.i64 0,Value.slice none 0 0,Value.slice none 0 0,Value.slice none 0 0,Value.slice none 0 0,Value.int IntKind.i64 0,Value.int IntKind.i64 0,Value.int IntKind.i64 0])∧(qp Tryz.prog 110=some ([Value.int IntKind.i64 0,Value.int IntKind.i64 0,Value.slice none 0 0,Value.slice none 0 0,Value.slice none 0 0,Value.slice none 0 0,Value.int IntKind.i64 0,Value.int IntKind.i64 0,Value.int IntKind.i64 0],[(0,1),(1,1),(2,1),(3,1),(4,1),(5,1),(6,1),(7,1),(8,1)]))∧(zJ Tryz.prog 110 0=some 0)∧(zN Tryz.prog 110 0=some (3,0))∧(zJ Tryz.prog 110 1=some 1)∧(zN Tryz.prog 110 1=some (3,1))∧(zJ Tryz.prog 110 2=some 2)∧(zN Tryz.prog 110 2=some (105,2))∧(zJ Tryz.prog 110 3=some 3)∧(zN Tryz.prog 110 3=some (106,3))∧(zJ Tryz.prog 110 4=some 4)∧(zN Tryz.prog 110 4=some (107,4))∧(zJ Tryz.prog 110 5=some 5)∧(zN Tryz.prog 110 5=some (108,5))∧(zJ Tryz.prog 110 6=some 6)∧(zN Tryz.prog 110 6=some (3,6))∧(zJ Tryz.prog 110 7=some 7)∧(zN Tryz.prog 110 7=some (3,7))∧(zJ Tryz.prog 110 8=some 8)∧(zN Tryz.prog 110 8=some (3,8))) ∧
  ((tySz Tryz.prog 114=some 1)∧(zS Tryz.prog 114=some false)∧(ptTy Tryz.prog 114=some true)∧(zK Tryz.prog 114=some [Value.pointer none])) ∧
  ((tySz Tryz.prog 118=some 1)∧(zS Tryz.prog 118=some false)∧(scTy Tryz.prog 118=some 0)∧(zK Tryz.prog 118=some [Value.int IntKind.i64 0])∧(Tryz.prog.underlying 118=some (TypeDesc.int IntKind.i64))) ∧
  ((tySz Tryz.prog 126=some 1)∧(zS Tryz.prog 126=some false)∧(scTy Tryz.prog 126=some 0)∧(zK Tryz.prog 126=some [Value.int IntKind.u64 0])∧(Tryz.prog.underlying 126=some (TypeDesc.int IntKind.u64))) ∧
  ((tySz Tryz.prog 130=some 1)∧(zS Tryz.prog 130=some false)∧(ptTy Tryz.prog 130=some true)∧(zK Tryz.prog 130=some [Value.pointer none])) ∧
  ((tySz Tryz.prog 135=some 3)∧(zS Tryz.prog 135=some true)∧(zK Tryz.prog 135=some [Value.int IntKind.i64 0,Value.int IntKind.i64 0,Value.int IntKind.i64 0])∧(qp Tryz.prog 135=some ([Value.int IntKind.i64 0,Value.int IntKind.i64 0,Value.int IntKind.i64 0],[(0,1),(1,1),(2,1)]))∧(eqTy Tryz.prog 135=some [(0,0),(1,0),(2,0)])∧(zJ Tryz.prog 135 0=some 0)∧(zN Tryz.prog 135 0=some (3,0))∧(zJ Tryz.prog 135 1=some 1)∧(zN Tryz.prog 135 1=some (3,1))∧(zJ Tryz.prog 135 2=some 2)∧(zN Tryz.prog 135 2=some (3,2))) ∧
  ((tySz Tryz.prog 138=some 5)∧(zS Tryz.prog 138=some true)∧(zK Tryz.prog 138=some [Value.int IntKind.i64 0,Value.int IntKind.i64 0,Value.int IntKind.i64 0,Value.int IntKind.i64 0,Value.bool false])∧(qp Tryz.prog 138=some ([Value.int IntKind.i64 0,Value.int IntKind.i64 0,Value.int IntKind.i64 0,Value.int IntKind.i64 0,Value.bool false],[(0,1),(1,1),(2,1),(3,1),(4,1)]))∧(eqTy Tryz.prog 138=some [(0,0),(1,0),(2,0),(3,0),(4,1)])∧(zJ Tryz.prog 138 0=some 0)∧(zN Tryz.prog 138 0=some (3,0))∧(zJ Tryz.prog 138 1=some 1)∧(zN Tryz.prog 138 1=some (3,1))∧(zJ Tryz.prog 138 2=some 2)∧(zN Tryz.prog 138 2=some (3,2))∧(zJ Tryz.prog 138 3=some 3)∧(zN Tryz.prog 138 3=some (3,3))∧(zJ Tryz.prog 138 4=some 4)∧(zN Tryz.prog 138 4=some (4,4))) ∧
  ((tySz Tryz.prog 143=some 4)∧(zS Tryz.prog 143=some true)∧(zK Tryz.prog 143=some [Value.int IntKind.i64 0,Value.int IntKind.i64 0,Value.bool false,Value.int IntKind.i64 0])∧(qp Tryz.prog 143=some ([Value.int IntKind.i64 0,Value.int IntKind.i64 0,Value.bool false,Value.int IntKind.i64 0],[(0,1),(1,1),(2,1),(3,1)]))∧(eqTy Tryz.prog 143=some [(0,0),(1,0),(2,1),(3,0)])∧(zJ Tryz.prog 143 0=some 0)∧(zN Tryz.prog 143 0=some (3,0))∧(zJ Tryz.prog 143 1=some 1)∧(zN Tryz.prog 143 1=some (3,1))∧(zJ Tryz.prog 143 2=some 2)∧(zN Tryz.prog 143 2=some (4,2))∧(zJ Tryz.prog 143 3=some 3)∧(zN Tryz.prog 143 3=some (3,3))) ∧
  ((tySz Tryz.prog 147=some 2)∧(zS Tryz.prog 147=some true)∧(zK Tryz.prog 147=some [Value.int IntKind.i64 0,Value.int IntKind.i64 0])∧(qp Tryz.prog 147=some ([Value.int IntKind.i64 0,Value.int IntKind.i64 0],[(0,1),(1,1)]))∧(eqTy Tryz.prog 147=some [(0,0),(1,0)])∧(zJ Tryz.prog 147 0=some 0)∧(zN Tryz.prog 147 0=some (3,0))∧(zJ Tryz.prog 147 1=some 1)∧(zN Tryz.prog 147 1=some (3,1))) ∧
  ((tySz Tryz.prog 148=some 1)∧(zS Tryz.prog 148=some false)∧(z18 Tryz.prog 148=some (3,161,Value.agg { toList := [Value.int IntKind.i64 0,Value.int IntKind.i64 0,Value.int IntKind.i64 0,Value.bool false] }))∧(zK Tryz.prog 148=some [Value.map none])∧(Tryz.prog.underlying 148=some (TypeDesc.map 3 161))) ∧
  ((tySz Tryz.prog 149=some 1)∧(zS Tryz.prog 149=some false)∧(z18 Tryz.prog 149=some (147,164,Value.agg { toList := [Value.bool false,Value.int IntKind.i64 0] }))∧(zK Tryz.prog 149=some [Value.map none])∧(Tryz.prog.underlying 149=some (TypeDesc.map 147 164))) ∧
  ((tySz Tryz.prog 150=some 1)∧(zS Tryz.prog 150=some false)∧(z18 Tryz.prog 150=some (147,4,Value.bool false))∧(zK Tryz.prog 150=some [Value.map none])∧(Tryz.prog.underlying 150=some (TypeDesc.map 147 4))) ∧
  ((tySz Tryz.prog 152=some 6)∧(zS Tryz.prog 152=some true)∧(zK Tryz.prog 152=some [Value.slice none 0 0,Value.int IntKind.i64 0,Value.int IntKind.i64 0,Value.int IntKind.i64 0,Value.int IntKind.i64 0,Value.int IntKind.i64 0])∧(qp Tryz.prog 152=some ([Value.slice none 0 0,Value.int IntKind.i64 0,Value.int IntKind.i64 0,Value.int IntKind.i64 0,Value.int IntKind.i64 0,Value.int IntKind.i64 0],[(0,1),(1,1),(2,1),(3,1),(4,1),(5,1)]))∧(zJ Tryz.prog 152 0=some 0)∧(zN Tryz.prog 152 0=some (23,0))∧(zJ Tryz.prog 152 1=some 1)∧(zN Tryz.prog 152 1=some (3,1))∧(zJ Tryz.prog 152 2=some 2)∧(zN Tryz.prog 152 2=some (3,2))∧(zJ Tryz.prog 152 3=some 3)∧(zN Tryz.prog 152 3=some (3,3))∧(zJ Tryz.prog 152 4=some 4)∧(zN Tryz.prog 152 4=some (3,4))∧(zJ Tryz.prog 152 5=some 5)∧(zN Tryz.prog 152 5=some (3,5))) ∧
  ((tySz Tryz.prog 154=some 11)∧(zS Tryz.prog 154=some true)∧(zK Tryz.prog 154=some [Value.int IntKind.i64 0,Value.int IntKind.i64 0,Value.map none,Value.map none,Value.map none,Value.slice none 0 0,Value.int IntKind.i64 0,Value.int IntKind.i64 0,Value.int IntKind.i64 0,Value.int IntKind.i64 0,Value.int IntKind.i64 0])∧(qp Tryz.prog 154=some ([Value.int IntKind.i64 0,Value.int IntKind.i64 0,Value.map none,Value.map none,Value.map none,Value.slice none 0 0,Value.int IntKind.i64 0,Value.int IntKind.i64 0,Value.int IntKind.i64 0,Value.int IntKind.i64 0,Value.int IntKind.i64 0],[(0,1),(1,1),(2,1),(3,1),(4,1),(5,6)]))∧(zJ Tryz.prog 154 0=some 0)∧(zN Tryz.prog 154 0=some (3,0))∧(zJ Tryz.prog 154 1=some 1)∧(zN Tryz.prog 154 1=some (3,1))∧(zJ Tryz.prog 154 2=some 2)∧(zN Tryz.prog 154 2=some (148,2))∧(zJ Tryz.prog 154 3=some 3)∧(zN Tryz.prog 154 3=some (149,3))∧(zJ Tryz.prog 154 4=some 4)∧(zN Tryz.prog 154 4=some (150,4))∧(zJ Tryz.prog 154 5=some 5)∧(zN Tryz.prog 154 5=some (152,5))) ∧
  ((tySz Tryz.prog 158=some 1)∧(zS Tryz.prog 158=some false)∧(ptTy Tryz.prog 158=some true)∧(zK Tryz.prog 158=some [Value.pointer none])) ∧
  ((tySz Tryz.prog 161=some 4)∧(zS Tryz.prog 161=some true)∧(zK Tryz.prog 161=some [Value.int IntKind.i64 0,Value.int IntKind.i64 0,Value.int IntKind.i64 0,Value.bool false])∧(qp Tryz.prog 161=some ([Value.int IntKind.i64 0,Value.int IntKind.i64 0,Value.int IntKind.i64 0,Value.bool false],[(0,1),(1,1),(2,1),(3,1)]))∧(eqTy Tryz.prog 161=some [(0,0),(1,0),(2,0),(3,1)])∧(zJ Tryz.prog 161 0=some 0)∧(zN Tryz.prog 161 0=some (3,0))∧(zJ Tryz.prog 161 1=some 1)∧(zN Tryz.prog 161 1=some (3,1))∧(zJ Tryz.prog 161 2=some 2)∧(zN Tryz.prog 161 2=some (3,2))∧(zJ Tryz.prog 161 3=some 3)∧(zN Tryz.prog 161 3=some (4,3))) ∧
  ((tySz Tryz.prog 164=some 2)∧(zS Tryz.prog 164=some true)∧(zK Tryz.prog 164=some [Value.bool false,Value.int IntKind.i64 0])∧(qp Tryz.prog 164=some ([Value.bool false,Value.int IntKind.i64 0],[(0,1),(1,1)]))∧(eqTy Tryz.prog 164=some [(0,1),(1,0)])∧(zJ Tryz.prog 164 0=some 0)∧(zN Tryz.prog 164 0=some (4,0))∧(zJ Tryz.prog 164 1=some 1)∧(zN Tryz.prog 164 1=some (3,1))):=by
 and_intros <;> kernel_rfl
set_option linter.defProp false in
def az := And.intro @implies_true.{0} (And.intro @implies_true.{1} (And.intro amz tys))
abbrev AV.str (b:ByteArray):AV := .p (.val (.string b))
def D10 (u:Nat):ByteArray:=⟨(Go.Lib.decDigits u).toArray⟩
theorem z6y (u:Nat):(D10 u).data.toList=Go.Lib.decDigits u:=rfl
theorem D10_size (u:Nat):(D10 u).size=Go.Lib.nDigits u:=by simp [D10,ByteArray.size,Go.Lib.decDigits_length]
theorem D10_le (u:Nat) (h:u<18446744073709551616):(D10 u).size≤20:=by rw [D10_size];exact Go.Lib.nDigits_le20 u h
theorem z3e {a b:ByteArray} (h:a.data.toList=b.data.toList):a=b:=by
 cases a;cases b
 simp only at h
 rw [ByteArray.mk.injEq]
 exact Array.toList_inj.1 h
theorem z1P (a b:ByteArray):(a++b).data.toList=a.data.toList++b.data.toList:=by
 rw [ByteArray.data_append,Array.toList_append]
theorem z8N (c:Int):(chrB c).data.toList = [UInt8.ofNat c.toNat]:=rfl
theorem z4N (c:Int):(chrB c).size=1:=rfl
theorem D10_big {u:Nat} (h : ¬ u<10) (t:ByteArray):D10 u++t=D10 (u / 10)++(chrB ((48+u % 10:Nat):Int)++t):=by
 apply z3e
 rw [z1P,z1P,z1P,z6y,z6y,z8N,Go.Lib.decDigits,dif_neg h,List.append_assoc,Int.toNat_natCast]
theorem z7o {u:Nat} (h:u<10) (t:ByteArray):D10 u++t=chrB ((48+u:Nat):Int)++t:=by
 apply z3e
 rw [z1P,z1P,z6y,z8N,Go.Lib.decDigits,dif_pos h,Int.toNat_natCast]
theorem app_nil (a:ByteArray):a++⟨#[]⟩=a:=by
 apply z3e
 rw [z1P];simp
theorem w_i64 {n:Nat} (h:n<9223372036854775808):IntKind.i64.wrap (n:Int)=n:=by rw [IntKind.wrap_i64];omega
theorem w_u8 {n:Nat} (h:n<256):IntKind.u8.wrap (n:Int)=n:=by
 simp only [IntKind.wrap,IntKind.bits,IntKind.signed,Bool.false_and,Bool.false_eq_true,if_false]
 omega
theorem w_u64 {n:Nat} (h:n<18446744073709551616):IntKind.u64.wrap (n:Int)=n:=by
 simp only [IntKind.wrap,IntKind.bits,IntKind.signed,Bool.false_and,Bool.false_eq_true,if_false]
 omega
theorem tmod10 (k:Nat):Int.tmod (k:Int) 10=((k % 10:Nat):Int):=by
 rw [Int.tmod_eq_emod_of_nonneg (by omega)];rfl
theorem tdiv10 (k:Nat):Int.tdiv (k:Int) 10=((k / 10:Nat):Int):=by
 rw [Int.tdiv_eq_ediv_of_nonneg (by omega)];rfl
theorem add48 (k:Nat):(48:Int)+(k:Int)=((48+k:Nat):Int):=by omega
theorem dec20_ok (n:Nat) (hn:n<9223372036854775808):zx Tryz.prog 32 [.int n] (.str (D10 n)):=by
 have hn20:Go.Lib.nDigits n≤20:=Go.Lib.nDigits_le20 n (by omega)
 refine zx.of Tryz.func32 rfl 23 rfl (by decide) (by simp [AV.okB]) ?_
 repeat' (first|refine T.zh fun K hK=>?_|apply T.block|(refine T.reg (by kernel_rfl) fun K' hK'=>?_;simp only [bz];(with_reducible repeat' (first|(apply WL.fin;apply hK';clear hK' K')|(refine WL.step fun K2 hK2=>?_;simp only [simprocAttr,az];repeat' (first|(apply hK2;clear hK2 K2)|apply And.intro|intro hb)))))|apply T.skip|apply T.exit|refine T.zg rfl ?_|refine T.zf rfl ?_|refine T.cond rfl (fun hc=>?_) (fun hc=>?_)|apply T.ret|simp only [zb,za,reduceIte,Nat.reduceEqDiff]|((repeat ((fail_if_success apply hK);clear hK K));apply hK;clear hK K))
 refine T.qC (fun p:Nat × ByteArray=>⟨[(0,.int p.1),(2,.str ⟨#[]⟩),(3,.str p.2)],[],23,0⟩) (fun p=>D10 n=D10 p.1++p.2∧p.2.size+Go.Lib.nDigits p.1≤20∧p.1≤n) (fun p=>p.1) (n,⟨#[]⟩) ⟨(app_nil _).symm,by show 0+Go.Lib.nDigits n≤20;omega,Nat.le_refl _⟩ (by refine zk.of' rfl ?_;simp only [wks,reduceIte,Nat.reduceEqDiff,ASt.okB,AV.okB,Nat.reduceLT,implies_true,]) ?_
 rintro ⟨k,t⟩ ⟨h1,h2,h3⟩ KL hKL
 simp only at h1 h2 h3
 have e0:=tmod10 k
 have e1:=tdiv10 k
 have hsz : ∀ c,((chrB c).size+t.size≤9223372036854775807)=True:=fun c=>by
  rw [z4N]
  exact eq_true (by omega)
 by_cases hk:k<10
 ·have hd:decide ((10:Int)≤(k:Int))=false:=by simp;omega
  have e2:=w_i64 (show 48+k<9223372036854775808 by omega)
  have e3:=w_u8 (show 48+k<256 by omega)
  have h4:=h1.trans (z7o hk t)
  repeat' (first|refine T.zh fun K hK=>?_|apply T.block|(refine T.reg (by kernel_rfl) fun K' hK'=>?_;simp only [bz];(with_reducible repeat' (first|(apply WL.fin;apply hK';clear hK' K')|(refine WL.step fun K2 hK2=>?_;simp only [simprocAttr,az,Option.isSome_some,ml_1,hd,add48,e2,e3,hsz];repeat' (first|(apply hK2;clear hK2 K2)|apply And.intro|intro hb)))))|apply T.skip|apply T.exit|refine T.zg rfl ?_|refine T.zf rfl ?_|refine T.cond rfl (fun hc=>?_) (fun hc=>?_)|apply T.ret|simp only [zb,za,reduceIte,Nat.reduceEqDiff]|((repeat ((fail_if_success apply hK);clear hK K));apply hK;clear hK K))
  all_goals (refine zH.ret (.inr rfl) Tryz.results32 ?_;simp only [zw,zt,zq,simprocAttr,az,h4])
 ·have hd:decide ((10:Int)≤(k:Int))=true:=by simp;omega
  have e2:=w_i64 (show 48+k % 10<9223372036854775808 by omega)
  have e3:=w_u8 (show 48+k % 10<256 by omega)
  have e4:=w_i64 (show k / 10<9223372036854775808 by omega)
  have hnd:=Go.Lib.nDigits_big hk
  repeat' (first|refine T.zh fun K hK=>?_|apply T.block|(refine T.reg (by kernel_rfl) fun K' hK'=>?_;simp only [bz];(with_reducible repeat' (first|(apply WL.fin;apply hK';clear hK' K')|(refine WL.step fun K2 hK2=>?_;simp only [simprocAttr,az,Option.isSome_some,ml_1,hd,e0,e1,add48,e2,e3,e4,hsz];repeat' (first|(apply hK2;clear hK2 K2)|apply And.intro|intro hb)))))|apply T.skip|apply T.exit|refine T.zg rfl ?_|refine T.zf rfl ?_|refine T.cond rfl (fun hc=>?_) (fun hc=>?_)|apply T.ret|simp only [zb,za,reduceIte,Nat.reduceEqDiff]|((repeat ((fail_if_success apply hK);clear hK K));apply hK;clear hK K))
  refine hKL _ (k / 10,chrB ((48+k % 10:Nat):Int)++t) ?_ ⟨by rw [h1,D10_big hk],?_,by simp only;omega⟩ (by simp only;omega)
  ·refine zk.of' rfl ?_;simp only [wks,reduceIte,Nat.reduceEqDiff,ASt.okB,AV.okB,Nat.reduceLT,implies_true,]
  ·simp only
   rw [ByteArray.size_append,z4N]
   omega
theorem dec32_ok (n:Nat) (hn:n<9223372036854775808):zx Tryz.prog 15 [.int n] (.str (D10 n)):=by
 have hn20:Go.Lib.nDigits n≤20:=Go.Lib.nDigits_le20 n (by omega)
 have hu:=w_u64 (show n<18446744073709551616 by omega)
 have hneg:decide ((n:Int)<0)=false:=by simp
 refine zx.of Tryz.func15 rfl 35 rfl (by decide) (by simp [AV.okB]) ?_
 repeat' (first|refine T.zh fun K hK=>?_|apply T.block|(refine T.reg (by kernel_rfl) fun K' hK'=>?_;simp only [bz];(with_reducible repeat' (first|(apply WL.fin;apply hK';clear hK' K')|(refine WL.step fun K2 hK2=>?_;simp only [simprocAttr,az,Option.isSome_some,hu,hneg];repeat' (first|(apply hK2;clear hK2 K2)|apply And.intro|intro hb)))))|apply T.skip|apply T.exit|refine T.zg rfl ?_|refine T.zf rfl ?_|refine T.cond rfl (fun hc=>?_) (fun hc=>?_)|apply T.ret|simp only [zb,za,reduceIte,Nat.reduceEqDiff]|((repeat ((fail_if_success apply hK);clear hK K));apply hK;clear hK K))
 refine T.qC (fun p:Nat × ByteArray=>⟨[(0,.int n),(2,.str ⟨#[]⟩),(3,.p (.val (.int .u64 (p.1:Int)))),(4,.str p.2)],[],35,0⟩) (fun p=>D10 n=D10 p.1++p.2∧p.2.size+Go.Lib.nDigits p.1≤20∧p.1≤n) (fun p=>p.1) (n,⟨#[]⟩) ⟨(app_nil _).symm,by show 0+Go.Lib.nDigits n≤20;omega,Nat.le_refl _⟩ (by refine zk.of' rfl ?_;simp only [wks,reduceIte,Nat.reduceEqDiff,ASt.okB,AV.okB,Nat.reduceLT,implies_true,]) ?_
 rintro ⟨k,t⟩ ⟨h1,h2,h3⟩ KL hKL
 simp only at h1 h2 h3
 have e0:=tmod10 k
 have e1:=tdiv10 k
 have hsz : ∀ c,((chrB c).size+t.size≤9223372036854775807)=True:=fun c=>by
  rw [z4N]
  exact eq_true (by omega)
 by_cases hk:k<10
 ·have hd:decide ((10:Int)≤(k:Int))=false:=by simp;omega
  have e2:=w_u64 (show 48+k<18446744073709551616 by omega)
  have e3:=w_u8 (show 48+k<256 by omega)
  have h4:=h1.trans (z7o hk t)
  repeat' (first|refine T.zh fun K hK=>?_|apply T.block|(refine T.reg (by kernel_rfl) fun K' hK'=>?_;simp only [bz];(with_reducible repeat' (first|(apply WL.fin;apply hK';clear hK' K')|(refine WL.step fun K2 hK2=>?_;simp only [simprocAttr,az,Option.isSome_some,ml_1,hd,hneg,add48,e2,e3,hsz];repeat' (first|(apply hK2;clear hK2 K2)|apply And.intro|intro hb)))))|apply T.skip|apply T.exit|refine T.zg rfl ?_|refine T.zf rfl ?_|refine T.cond rfl (fun hc=>?_) (fun hc=>?_)|apply T.ret|simp only [zb,za,reduceIte,Nat.reduceEqDiff]|((repeat ((fail_if_success apply hK);clear hK K));apply hK;clear hK K))
  all_goals (refine zH.ret (.inr rfl) Tryz.results15 ?_;simp only [zw,zt,zq,simprocAttr,az,h4])
 ·have hd:decide ((10:Int)≤(k:Int))=true:=by simp;omega
  have e2:=w_u64 (show 48+k % 10<18446744073709551616 by omega)
  have e3:=w_u8 (show 48+k % 10<256 by omega)
  have e4:=w_u64 (show k / 10<18446744073709551616 by omega)
  have hnd:=Go.Lib.nDigits_big hk
  repeat' (first|refine T.zh fun K hK=>?_|apply T.block|(refine T.reg (by kernel_rfl) fun K' hK'=>?_;simp only [bz];(with_reducible repeat' (first|(apply WL.fin;apply hK';clear hK' K')|(refine WL.step fun K2 hK2=>?_;simp only [simprocAttr,az,Option.isSome_some,ml_1,hd,e0,e1,add48,e2,e3,e4,hsz];repeat' (first|(apply hK2;clear hK2 K2)|apply And.intro|intro hb)))))|apply T.skip|apply T.exit|refine T.zg rfl ?_|refine T.zf rfl ?_|refine T.cond rfl (fun hc=>?_) (fun hc=>?_)|apply T.ret|simp only [zb,za,reduceIte,Nat.reduceEqDiff]|((repeat ((fail_if_success apply hK);clear hK K));apply hK;clear hK K))
  refine hKL _ (k / 10,chrB ((48+k % 10:Nat):Int)++t) ?_ ⟨by rw [h1,D10_big hk],?_,by simp only;omega⟩ (by simp only;omega)
  ·refine zk.of' rfl ?_;simp only [wks,reduceIte,Nat.reduceEqDiff,ASt.okB,AV.okB,Nat.reduceLT,implies_true,]
  ·simp only
   rw [ByteArray.size_append,z4N]
   omega
structure Ev where
 g:Int
 kind:Int
 obj:Int
 off:Int
 k:Int
 n:Int
 fn:Int
 pc:Int
 st:Int
def evC (e:Ev):List PV := [.val (.int .i64 e.g),.val (.int .i64 e.kind),.val (.int .i64 e.obj),.val (.int .i64 e.off),.val (.int .i64 e.k),.val (.int .i64 e.n),.val (.int .i64 e.fn),.val (.int .i64 e.pc),.val (.int .i64 e.st)]
def evA (e:Ev):AV := .agg ((evC e).map .p)
def z3l (k:Int):Bool:=decide (1≤k)&&decide (k≤20)
theorem z7G (k:Int):zx Tryz.prog 39 [.int k] (.bool (z3l k)):=by
 refine zx.of Tryz.func39 rfl 9 rfl (by decide) (by simp [AV.okB]) ?_
 repeat' (first|refine T.zh fun K hK=>?_|apply T.block|(refine T.reg (by kernel_rfl) fun K' hK'=>?_;simp only [bz];(with_reducible repeat' (first|(apply WL.fin;apply hK';clear hK' K')|(refine WL.step fun K2 hK2=>?_;simp only [simprocAttr,az];repeat' (first|(apply hK2;clear hK2 K2)|apply And.intro|intro hb)))))|apply T.skip|apply T.exit|refine T.zg rfl ?_|refine T.zf rfl ?_|refine T.cond rfl (fun hc=>?_) (fun hc=>?_)|apply T.ret|simp only [zb,za,reduceIte,Nat.reduceEqDiff]|((repeat ((fail_if_success apply hK);clear hK K));apply hK;clear hK K))
 all_goals (refine zH.ret (.inr rfl) Tryz.results39 ?_;simp only [zw,zt,zq,simprocAttr,az,];first|(simp [z3l, *];done)|(simp_all [z3l];done)|(simp_all [z3l];omega))
def z11 (k:Int):Bool:=decide (15≤k)&&decide (k≤18)
theorem z4S (k:Int):zx Tryz.prog 40 [.int k] (.bool (z11 k)):=by
 refine zx.of Tryz.func40 rfl 9 rfl (by decide) (by simp [AV.okB]) ?_
 repeat' (first|refine T.zh fun K hK=>?_|apply T.block|(refine T.reg (by kernel_rfl) fun K' hK'=>?_;simp only [bz];(with_reducible repeat' (first|(apply WL.fin;apply hK';clear hK' K')|(refine WL.step fun K2 hK2=>?_;simp only [simprocAttr,az];repeat' (first|(apply hK2;clear hK2 K2)|apply And.intro|intro hb)))))|apply T.skip|apply T.exit|refine T.zg rfl ?_|refine T.zf rfl ?_|refine T.cond rfl (fun hc=>?_) (fun hc=>?_)|apply T.ret|simp only [zb,za,reduceIte,Nat.reduceEqDiff]|((repeat ((fail_if_success apply hK);clear hK K));apply hK;clear hK K))
 all_goals (refine zH.ret (.inr rfl) Tryz.results40 ?_;simp only [zw,zt,zq,simprocAttr,az,];first|(simp [z11, *];done)|(simp_all [z11];done)|(simp_all [z11];omega))
def zT (k:Int):Bool:=decide (15≤k)&&decide (k≤20)
theorem z2d (k:Int):zx Tryz.prog 34 [.int k] (.bool (zT k)):=by
 refine zx.of Tryz.func34 rfl 9 rfl (by decide) (by simp [AV.okB]) ?_
 repeat' (first|refine T.zh fun K hK=>?_|apply T.block|(refine T.reg (by kernel_rfl) fun K' hK'=>?_;simp only [bz];(with_reducible repeat' (first|(apply WL.fin;apply hK';clear hK' K')|(refine WL.step fun K2 hK2=>?_;simp only [simprocAttr,az];repeat' (first|(apply hK2;clear hK2 K2)|apply And.intro|intro hb)))))|apply T.skip|apply T.exit|refine T.zg rfl ?_|refine T.zf rfl ?_|refine T.cond rfl (fun hc=>?_) (fun hc=>?_)|apply T.ret|simp only [zb,za,reduceIte,Nat.reduceEqDiff]|((repeat ((fail_if_success apply hK);clear hK K));apply hK;clear hK K))
 all_goals (refine zH.ret (.inr rfl) Tryz.results34 ?_;simp only [zw,zt,zq,simprocAttr,az,];first|(simp [zT, *];done)|(simp_all [zT];done)|(simp_all [zT];omega))
def z3R (k:Int):Bool:=z11 k||k==19||k==20
theorem z7R (k:Int):z3R k=zT k:=by
 unfold z3R zT z11
 rw [Bool.eq_iff_iff]
 simp
 omega
theorem z2R (k:Int):zx Tryz.prog 26 [.int k] (.bool (zT k)):=by
 rw [← z7R]
 refine zx.of Tryz.func26 rfl 13 rfl (by decide) (by simp [AV.okB]) ?_
 repeat' (first|refine T.zh fun K hK=>?_|apply T.block|(refine T.reg (by kernel_rfl) fun K' hK'=>?_;simp only [bz];(repeat' (first|(with_reducible refine WL.fin ?_;apply hK';clear hK' K')|((with_reducible refine WL.step fun K2 hK2=>?_);simp only [simprocAttr,az];(repeat' (first|with_reducible (first|(apply hK2;clear hK2 K2)|apply And.intro|intro hb)|((with_reducible first|apply zl|apply zm);case h=>exact CallV.plain (Ent.of Tryz.func40 (by kernel_rfl) rfl) (z4S _) (by simp [AV.okB]))))))))|apply T.skip|apply T.exit|refine T.zg rfl ?_|refine T.zf rfl ?_|refine T.cond rfl (fun hc=>?_) (fun hc=>?_)|apply T.ret|simp only [zb,za,reduceIte,Nat.reduceEqDiff]|((repeat ((fail_if_success apply hK);clear hK K));apply hK;clear hK K))
 all_goals (refine zH.ret (.inr rfl) Tryz.results26 ?_;simp only [zw,zt,zq,simprocAttr,az,];first|(simp [z3R, *];done)|(simp_all [z3R];done)|(simp_all [z3R];omega))
structure Cn where
 obj:Int
 n:Int
 sent:Int
 recv:Int
 closed:Bool
structure Lk where
 obj:Int
 off:Int
 locked:Bool
 readers:Int
structure Wt where
 kind:Int
 g:Int
 not:Int
structure Rs where
 count:Int
 gor:Int
 chans:List Cn
 locks:List Lk
 done:List (Int × Int)
 next:List Wt
 obj:Int
 k:Int
 n:Int
abbrev pI (x:Int):PV := .val (.int .i64 x)
def cnC (c:Cn):List PV := [.val (.int .i64 c.obj),.val (.int .i64 c.n),.val (.int .i64 c.sent),.val (.int .i64 c.recv),.val (.bool c.closed)]
def lkC (c:Lk):List PV := [.val (.int .i64 c.obj),.val (.int .i64 c.off),.val (.bool c.locked),.val (.int .i64 c.readers)]
def wtC (c:Wt):List PV := [.val (.int .i64 c.kind),.val (.int .i64 c.g),.val (.int .i64 c.not)]
def loC (c:Int × Int):List PV := [.val (.int .i64 c.1),.val (.int .i64 c.2)]
def rsC (s:Rs):List PV := [.val (.int .i64 s.count),.val (.int .i64 s.gor),.seq 5 (s.chans.map cnC),.seq 4 (s.locks.map lkC),.seq 2 (s.done.map loC),.seq 3 (s.next.map wtC),.val (.int .i64 s.obj),.val (.int .i64 s.k),.val (.int .i64 s.n)]
def rsA (s:Rs):AV := .agg ((rsC s).map .p)
def cnA (c:Cn):AV := .agg ((cnC c).map .p)
def lkA (c:Lk):AV := .agg ((lkC c).map .p)
def qB (o n:Int):List Cn→Cn
 | []=>⟨o,n,0,0,false⟩
 | c :: r=>if c.obj==o then c else qB o n r
theorem drop_at {α:Type} {l:List α} {k:Nat} {x : α} (h:l[k]? = some x):l.drop k=x :: l.drop (k+1):=by
 obtain ⟨h1,h2⟩:=List.getElem?_eq_some_iff.1 h
 rw [List.drop_eq_getElem_cons h1,h2]
theorem z2T {α:Type} {l:List α} {k:Nat} (h : ¬ k<l.length):l.drop k = []:=List.drop_eq_nil_of_le (by omega)
theorem zQ {α:Type} {l:List α} {k:Nat} (h:k<l.length) : ∃ x,l[k]? = some x:=⟨_,List.getElem?_eq_getElem h⟩
theorem chan_ok (s:Rs) (o n:Int) (hl:s.chans.length≤1000000):zx Tryz.prog 95 [rsA s,.int o,.int n] (cnA (qB o n s.chans)):=by
 simp only [rsA,rsC,List.map_cons,List.map_nil,cnA,cnC]
 refine zx.of Tryz.func95 rfl 31 rfl (by decide) (by simp [AV.okB]) ?_
 repeat' (first|refine T.zh fun K hK=>?_|apply T.block|(refine T.reg (by kernel_rfl) fun K' hK'=>?_;simp only [bz];(with_reducible repeat' (first|(apply WL.fin;apply hK';clear hK' K')|(refine WL.step fun K2 hK2=>?_;simp only [simprocAttr,az];repeat' (first|(apply hK2;clear hK2 K2)|apply And.intro|intro hb)))))|apply T.skip|apply T.exit|refine T.zg rfl ?_|refine T.zf rfl ?_|refine T.cond rfl (fun hc=>?_) (fun hc=>?_)|apply T.ret|simp only [zb,za,reduceIte,Nat.reduceEqDiff]|((repeat ((fail_if_success apply hK);clear hK K));apply hK;clear hK K))
 refine T.qC (fun k:Nat=>⟨[(0,rsA s),(1,.int o),(2,.int n),(3,.ptr 0 0),(6,.ptr 1 0),(7,.int k)],[(1,.box 138 ((cnC ⟨0,0,0,0,false⟩).map .p)),(0,.box 110 ((rsC s).map .p))],31,2⟩) (fun k=>k≤s.chans.length∧qB o n s.chans=qB o n (s.chans.drop k)) (fun k=>s.chans.length-k) 0 ⟨Nat.zero_le _,rfl⟩ (by refine zk.of' rfl ?_;simp only [wks,reduceIte,Nat.reduceEqDiff,ASt.okB,AV.okB,Nat.reduceLT,implies_true,Int.natCast_zero,rsA,rsC,cnC,List.map_cons,List.map_nil]) ?_
 ·rintro k ⟨hk,hn⟩ KL hKL
  simp only [rsA,rsC,List.map_cons,List.map_nil,cnC]
  by_cases hlt:k<s.chans.length
  ·obtain ⟨x,hx⟩:=zQ hlt
   have hd:decide ((k:Int)<(s.chans.length:Int))=true:=by simpa using hlt
   rw [drop_at hx,qB] at hn
   repeat' (first|refine T.zh fun K hK=>?_|apply T.block|(refine T.reg (by kernel_rfl) fun K' hK'=>?_;simp only [bz];(with_reducible repeat' (first|(apply WL.fin;apply hK';clear hK' K')|(refine WL.step fun K2 hK2=>?_;simp only [simprocAttr,az,hx,hd,cnC];repeat' (first|(apply hK2;clear hK2 K2)|apply And.intro|intro hb)))))|apply T.skip|apply T.exit|refine T.zg rfl ?_|refine T.zf rfl ?_|refine T.cond rfl (fun hc=>?_) (fun hc=>?_)|apply T.ret|simp only [zb,za,reduceIte,Nat.reduceEqDiff]|((repeat ((fail_if_success apply hK);clear hK K));apply hK;clear hK K))
   ·rw [hc] at hn
    refine zH.ret (.inr rfl) Tryz.results95 ?_;simp only [zw,zt,zq,simprocAttr,az,]
    simp [hn]
   ·rw [hc] at hn
    refine hKL _ (k+1) (by refine zk.of' rfl ?_;simp only [wks,reduceIte,Nat.reduceEqDiff,ASt.okB,AV.okB,Nat.reduceLT,implies_true,zu (show k<1152921504606846976 by omega),rsA,rsC,cnC,List.map_cons,List.map_nil]) ⟨by omega,?_⟩ (by omega)
    simpa using hn
  ·have hd:decide ((k:Int)<(s.chans.length:Int))=false:=by simpa using hlt
   rw [z2T hlt] at hn
   repeat' (first|refine T.zh fun K hK=>?_|apply T.block|(refine T.reg (by kernel_rfl) fun K' hK'=>?_;simp only [bz];(with_reducible repeat' (first|(apply WL.fin;apply hK';clear hK' K')|(refine WL.step fun K2 hK2=>?_;simp only [simprocAttr,az,hd,cnC];repeat' (first|(apply hK2;clear hK2 K2)|apply And.intro|intro hb)))))|apply T.skip|apply T.exit|refine T.zg rfl ?_|refine T.zf rfl ?_|refine T.cond rfl (fun hc=>?_) (fun hc=>?_)|apply T.ret|simp only [zb,za,reduceIte,Nat.reduceEqDiff]|((repeat ((fail_if_success apply hK);clear hK K));apply hK;clear hK K))
   refine zH.ret (.inr rfl) Tryz.results95 ?_;simp only [zw,zt,zq,simprocAttr,az,]
   simp [hn,qB]
def setC (s:Rs) (c:Cn):Rs := { s with chans:=s.chans.filter (fun x=>x.obj != c.obj) ++ [c] }
theorem z8H {α:Type} {l:List α} {k:Nat} {x : α} {p : α→Bool} (h:l[k]? = some x) (hp:p x=true):(l.take (k+1)).filter p=(l.take k).filter p ++ [x]:=by
 rw [List.take_add_one,h,List.filter_append];simp [hp]
theorem filt_no {α:Type} {l:List α} {k:Nat} {x : α} {p : α→Bool} (h:l[k]? = some x) (hp:p x=false):(l.take (k+1)).filter p=(l.take k).filter p:=by
 rw [List.take_add_one,h,List.filter_append];simp [hp]
theorem z6I {α:Type} (l:List α) (k:Nat) (p : α→Bool):((l.take k).filter p).length≤l.length:=Nat.le_trans (List.length_filter_le _ _) (by simp;omega)
theorem z7W (s:Rs) (c:Cn) (hl:s.chans.length≤1000000):zx Tryz.prog 97 [rsA s,cnA c] (rsA (setC s c)):=by
 simp only [rsA,rsC,List.map_cons,List.map_nil,cnA,cnC]
 refine zx.of Tryz.func97 rfl 37 rfl (by decide) (by simp [AV.okB]) ?_
 repeat' (first|refine T.zh fun K hK=>?_|apply T.block|(refine T.reg (by kernel_rfl) fun K' hK'=>?_;simp only [bz];(with_reducible repeat' (first|(apply WL.fin;apply hK';clear hK' K')|(refine WL.step fun K2 hK2=>?_;simp only [simprocAttr,az];repeat' (first|(apply hK2;clear hK2 K2)|apply And.intro|intro hb)))))|apply T.skip|apply T.exit|refine T.zg rfl ?_|refine T.zf rfl ?_|refine T.cond rfl (fun hc=>?_) (fun hc=>?_)|apply T.ret|simp only [zb,za,reduceIte,Nat.reduceEqDiff]|((repeat ((fail_if_success apply hK);clear hK K));apply hK;clear hK K))
 refine T.qC (fun k:Nat=>⟨[(0,rsA s),(1,cnA c),(2,.ptr 0 0),(3,.ptr 1 0),(4,.ptr 2 0),(5,.own 3),(6,.int k)],[(3,.row 138 5 (((s.chans.take k).filter fun x=>x.obj != c.obj).map cnC)),(2,.box 110 [.int 0,.int 0,.p (.val (.slice none 0 0)),.p (.val (.slice none 0 0)),.p (.val (.slice none 0 0)),.p (.val (.slice none 0 0)),.int 0,.int 0,.int 0]),(1,.box 138 ((cnC c).map .p)),(0,.box 110 ((rsC s).map .p))],37,4⟩) (fun k=>k≤s.chans.length) (fun k=>s.chans.length-k) 0 (Nat.zero_le _) ((zk.z7c _ 5 138 5 (show 5<37 by decide) rfl).trans (by refine zk.of' rfl ?_;simp only [wks,reduceIte,Nat.reduceEqDiff,ASt.okB,AV.okB,Nat.reduceLT,implies_true,ASt.add,qJ,Int.natCast_zero,rsA,rsC,cnC,cnA,List.map_cons,List.map_nil,List.take_zero,List.filter_nil])) ?_
 ·rintro k hk KL hKL
  simp only [rsA,rsC,List.map_cons,List.map_nil,cnC,cnA]
  by_cases hlt:k<s.chans.length
  ·obtain ⟨x,hx⟩:=zQ hlt
   have hd:decide ((k:Int)<(s.chans.length:Int))=true:=by simpa using hlt
   have hln:=z6I s.chans k (fun x=>x.obj != c.obj)
   have hmx:((s.chans.take k).filter fun x=>x.obj != c.obj).length+1≤maxLen:=by unfold maxLen;omega
   have hmy:(((s.chans.take k).filter fun x=>x.obj != c.obj).length+1)*40≤140737488355328:=by omega
   repeat' (first|refine T.zh fun K hK=>?_|apply T.block|(refine T.reg (by kernel_rfl) fun K' hK'=>?_;simp only [bz];(with_reducible repeat' (first|(apply WL.fin;apply hK';clear hK' K')|(refine WL.step fun K2 hK2=>?_;simp only [simprocAttr,az,hx,hd,cnC];repeat' (first|(apply hK2;clear hK2 K2)|apply And.intro|intro hb)))))|apply T.skip|apply T.exit|refine T.zg rfl ?_|refine T.zf rfl ?_|refine T.cond rfl (fun hc=>?_) (fun hc=>?_)|apply T.ret|simp only [zb,za,reduceIte,Nat.reduceEqDiff]|((repeat ((fail_if_success apply hK);clear hK K));apply hK;clear hK K))
   refine T.drw 9 (by kernel_rfl) (by kernel_rfl) fun K' hK'=>?_;simp only [List.map_cons,List.map_nil];(repeat' (first|(with_reducible refine WL.fin ?_;apply hK';clear hK' K')|(with_reducible refine WD.fin ?_)|((with_reducible first|refine WL.step fun K2 hK2=>?_|refine WD.step fun K2 hK2=>?_);simp only [simprocAttr,az,hx,hd,cnC];(repeat' with_reducible (first|(apply hK2;clear hK2 K2)|apply And.intro|intro hb)))));all_goals ((try simp only [zb,za,reduceIte,Nat.reduceEqDiff]);(try ((repeat ((fail_if_success apply hK);clear hK K));apply hK;clear hK K)))
   repeat' (first|refine T.zh fun K hK=>?_|apply T.block|(refine T.reg (by kernel_rfl) fun K' hK'=>?_;simp only [bz];(with_reducible repeat' (first|(apply WL.fin;apply hK';clear hK' K')|(refine WL.step fun K2 hK2=>?_;simp only [simprocAttr,az,hx,hd,cnC,hmx,hmy,ml_1];repeat' (first|(apply hK2;clear hK2 K2)|apply And.intro|intro hb)))))|apply T.skip|apply T.exit|refine T.zg rfl ?_|refine T.zf rfl ?_|refine T.cond rfl (fun hc=>?_) (fun hc=>?_)|apply T.ret|simp only [zb,za,reduceIte,Nat.reduceEqDiff]|((repeat ((fail_if_success apply hK);clear hK K));apply hK;clear hK K))
   ·have e:((s.chans.take (k+1)).filter fun x=>x.obj != c.obj).map cnC=((s.chans.take k).filter fun x=>x.obj != c.obj).map cnC ++ [cnC x]:=by rw [z8H hx hc];simp
    refine hKL _ (k+1) (by refine zk.of' rfl ?_;simp only [wks,reduceIte,Nat.reduceEqDiff,ASt.okB,AV.okB,Nat.reduceLT,implies_true,zu (show k<1152921504606846976 by omega),rsA,rsC,cnC,cnA,List.map_cons,List.map_nil,e]) (by omega) (by omega)
   ·have e:((s.chans.take (k+1)).filter fun x=>x.obj != c.obj).map cnC=((s.chans.take k).filter fun x=>x.obj != c.obj).map cnC:=by rw [filt_no hx hc]
    refine hKL _ (k+1) (by refine zk.of' rfl ?_;simp only [wks,reduceIte,Nat.reduceEqDiff,ASt.okB,AV.okB,Nat.reduceLT,implies_true,zu (show k<1152921504606846976 by omega),rsA,rsC,cnC,cnA,List.map_cons,List.map_nil,e]) (by omega) (by omega)
  ·have hd:decide ((k:Int)<(s.chans.length:Int))=false:=by simpa using hlt
   have hln:=z6I s.chans k (fun x=>x.obj != c.obj)
   have hmx:((s.chans.take k).filter fun x=>x.obj != c.obj).length+1≤maxLen:=by unfold maxLen;omega
   have hmy:(((s.chans.take k).filter fun x=>x.obj != c.obj).length+1)*40≤140737488355328:=by omega
   repeat' (first|refine T.zh fun K hK=>?_|apply T.block|(refine T.reg (by kernel_rfl) fun K' hK'=>?_;simp only [bz];(with_reducible repeat' (first|(apply WL.fin;apply hK';clear hK' K')|(refine WL.step fun K2 hK2=>?_;simp only [simprocAttr,az,hd,cnC,hmx,hmy,ml_1];repeat' (first|(apply hK2;clear hK2 K2)|apply And.intro|intro hb)))))|apply T.skip|apply T.exit|refine T.zg rfl ?_|refine T.zf rfl ?_|refine T.cond rfl (fun hc=>?_) (fun hc=>?_)|apply T.ret|simp only [zb,za,reduceIte,Nat.reduceEqDiff]|((repeat ((fail_if_success apply hK);clear hK K));apply hK;clear hK K))
   refine zH.retW (.inr rfl) Tryz.results97 (zk.frz _ 3) ?_;simp only [zw,zt,zq,ASt.frz,ASt.subst,AO.z4c,AO.z5v,AO.z6J,AO.z6k,AO.z3G,AV.z9C,AV.z6i,AV.z5a,AV.z4A,AV.z4a,AV.z3H,AV.z4L,AV.z4l,AV.z5K,AV.z3i,List.filter_cons,List.filter_nil,bne_self_eq_false,Nat.reduceBneDiff,Nat.reduceEqDiff,Bool.false_eq_true,simprocAttr,az]
   rw [List.take_of_length_le (by omega)]
   simp [setC,cnC]
def qW (o f:Int):List Lk→Lk
 | []=>⟨o,f,false,0⟩
 | c :: r=>if c.obj==o&&c.off==f then c else qW o f r
theorem lock_ok (s:Rs) (o f:Int) (hl:s.locks.length≤1000000):zx Tryz.prog 98 [rsA s,.int o,.int f] (lkA (qW o f s.locks)):=by
 simp only [rsA,rsC,List.map_cons,List.map_nil,lkA,lkC]
 refine zx.of Tryz.func98 rfl 41 rfl (by decide) (by simp [AV.okB]) ?_
 repeat' (first|refine T.zh fun K hK=>?_|apply T.block|(refine T.reg (by kernel_rfl) fun K' hK'=>?_;simp only [bz];(with_reducible repeat' (first|(apply WL.fin;apply hK';clear hK' K')|(refine WL.step fun K2 hK2=>?_;simp only [simprocAttr,az];repeat' (first|(apply hK2;clear hK2 K2)|apply And.intro|intro hb)))))|apply T.skip|apply T.exit|refine T.zg rfl ?_|refine T.zf rfl ?_|refine T.cond rfl (fun hc=>?_) (fun hc=>?_)|apply T.ret|simp only [zb,za,reduceIte,Nat.reduceEqDiff]|((repeat ((fail_if_success apply hK);clear hK K));apply hK;clear hK K))
 refine T.qC (fun k:Nat=>⟨[(0,rsA s),(1,.int o),(2,.int f),(3,.ptr 0 0),(6,.ptr 1 0),(7,.int k)],[(1,.box 143 ((lkC ⟨0,0,false,0⟩).map .p)),(0,.box 110 ((rsC s).map .p))],41,2⟩) (fun k=>k≤s.locks.length∧qW o f s.locks=qW o f (s.locks.drop k)) (fun k=>s.locks.length-k) 0 ⟨Nat.zero_le _,rfl⟩ (by refine zk.of' rfl ?_;simp only [wks,reduceIte,Nat.reduceEqDiff,ASt.okB,AV.okB,Nat.reduceLT,implies_true,Int.natCast_zero,rsA,rsC,lkC,List.map_cons,List.map_nil]) ?_
 ·rintro k ⟨hk,hn⟩ KL hKL
  simp only [rsA,rsC,List.map_cons,List.map_nil,lkC]
  by_cases hlt:k<s.locks.length
  ·obtain ⟨x,hx⟩:=zQ hlt
   have hd:decide ((k:Int)<(s.locks.length:Int))=true:=by simpa using hlt
   rw [drop_at hx,qW] at hn
   have hcont:qW o f s.locks=qW o f (s.locks.drop (k+1)) → ∀ s',zk s' _→KL s':=fun h s' hw=>hKL s' (k+1) hw ⟨by omega,h⟩ (by omega)
   repeat' (first|refine T.zh fun K hK=>?_|apply T.block|(refine T.reg (by kernel_rfl) fun K' hK'=>?_;simp only [bz];(with_reducible repeat' (first|(apply WL.fin;apply hK';clear hK' K')|(refine WL.step fun K2 hK2=>?_;simp only [simprocAttr,az,hx,hd,lkC];repeat' (first|(apply hK2;clear hK2 K2)|apply And.intro|intro hb)))))|apply T.skip|apply T.exit|refine T.zg rfl ?_|refine T.zf rfl ?_|refine T.cond rfl (fun hc=>?_) (fun hc=>?_)|apply T.ret|simp only [zb,za,reduceIte,Nat.reduceEqDiff]|((repeat ((fail_if_success apply hK);clear hK K));apply hK;clear hK K))
   all_goals first
    | (refine zH.ret (.inr rfl) Tryz.results98 ?_;simp only [zw,zt,zq,simprocAttr,az,];simp_all;done)
    | (refine hcont (by simp_all) _ (by refine zk.of' rfl ?_;simp only [wks,reduceIte,Nat.reduceEqDiff,ASt.okB,AV.okB,Nat.reduceLT,implies_true,zu (show k<1152921504606846976 by omega),rsA,rsC,lkC,List.map_cons,List.map_nil]))
  ·have hd:decide ((k:Int)<(s.locks.length:Int))=false:=by simpa using hlt
   rw [z2T hlt] at hn
   repeat' (first|refine T.zh fun K hK=>?_|apply T.block|(refine T.reg (by kernel_rfl) fun K' hK'=>?_;simp only [bz];(with_reducible repeat' (first|(apply WL.fin;apply hK';clear hK' K')|(refine WL.step fun K2 hK2=>?_;simp only [simprocAttr,az,hd,lkC];repeat' (first|(apply hK2;clear hK2 K2)|apply And.intro|intro hb)))))|apply T.skip|apply T.exit|refine T.zg rfl ?_|refine T.zf rfl ?_|refine T.cond rfl (fun hc=>?_) (fun hc=>?_)|apply T.ret|simp only [zb,za,reduceIte,Nat.reduceEqDiff]|((repeat ((fail_if_success apply hK);clear hK K));apply hK;clear hK K))
   refine zH.ret (.inr rfl) Tryz.results98 ?_;simp only [zw,zt,zq,simprocAttr,az,]
   simp [hn,qW]
def z8A (s:Rs) (o f:Int):Bool:=s.done.any fun c=>c.1==o&&c.2==f
theorem done_ok (s:Rs) (o f:Int) (hl:s.done.length≤1000000):zx Tryz.prog 100 [rsA s,.int o,.int f] (.bool (z8A s o f)):=by
 simp only [rsA,rsC,List.map_cons,List.map_nil]
 refine zx.of Tryz.func100 rfl 33 rfl (by decide) (by simp [AV.okB]) ?_
 repeat' (first|refine T.zh fun K hK=>?_|apply T.block|(refine T.reg (by kernel_rfl) fun K' hK'=>?_;simp only [bz];(with_reducible repeat' (first|(apply WL.fin;apply hK';clear hK' K')|(refine WL.step fun K2 hK2=>?_;simp only [simprocAttr,az];repeat' (first|(apply hK2;clear hK2 K2)|apply And.intro|intro hb)))))|apply T.skip|apply T.exit|refine T.zg rfl ?_|refine T.zf rfl ?_|refine T.cond rfl (fun hc=>?_) (fun hc=>?_)|apply T.ret|simp only [zb,za,reduceIte,Nat.reduceEqDiff]|((repeat ((fail_if_success apply hK);clear hK K));apply hK;clear hK K))
 refine T.qC (fun k:Nat=>⟨[(0,rsA s),(1,.int o),(2,.int f),(3,.ptr 0 0),(6,.bool false),(7,.int k)],[(0,.box 110 ((rsC s).map .p))],33,1⟩) (fun k=>k≤s.done.length∧z8A s o f=(s.done.drop k).any fun c=>c.1==o&&c.2==f) (fun k=>s.done.length-k) 0 ⟨Nat.zero_le _,rfl⟩ (by refine zk.of' rfl ?_;simp only [wks,reduceIte,Nat.reduceEqDiff,ASt.okB,AV.okB,Nat.reduceLT,implies_true,Int.natCast_zero,rsA,rsC,List.map_cons,List.map_nil]) ?_
 ·rintro k ⟨hk,hn⟩ KL hKL
  simp only [rsA,rsC,List.map_cons,List.map_nil]
  by_cases hlt:k<s.done.length
  ·obtain ⟨x,hx⟩:=zQ hlt
   have hd:decide ((k:Int)<(s.done.length:Int))=true:=by simpa using hlt
   rw [drop_at hx,List.any_cons] at hn
   have hcont:(z8A s o f=(s.done.drop (k+1)).any fun c=>c.1==o&&c.2==f) → ∀ s',zk s' _→KL s':=fun h s' hw=>hKL s' (k+1) hw ⟨by omega,h⟩ (by omega)
   repeat' (first|refine T.zh fun K hK=>?_|apply T.block|(refine T.reg (by kernel_rfl) fun K' hK'=>?_;simp only [bz];(with_reducible repeat' (first|(apply WL.fin;apply hK';clear hK' K')|(refine WL.step fun K2 hK2=>?_;simp only [simprocAttr,az,hx,hd,loC];repeat' (first|(apply hK2;clear hK2 K2)|apply And.intro|intro hb)))))|apply T.skip|apply T.exit|refine T.zg rfl ?_|refine T.zf rfl ?_|refine T.cond rfl (fun hc=>?_) (fun hc=>?_)|apply T.ret|simp only [zb,za,reduceIte,Nat.reduceEqDiff]|((repeat ((fail_if_success apply hK);clear hK K));apply hK;clear hK K))
   all_goals first
    | (refine zH.ret (.inr rfl) Tryz.results100 ?_;simp only [zw,zt,zq,simprocAttr,az,];simp_all;done)
    | (refine hcont (by simp_all) _ (by refine zk.of' rfl ?_;simp only [wks,reduceIte,Nat.reduceEqDiff,ASt.okB,AV.okB,Nat.reduceLT,implies_true,zu (show k<1152921504606846976 by omega),rsA,rsC,List.map_cons,List.map_nil]))
  ·have hd:decide ((k:Int)<(s.done.length:Int))=false:=by simpa using hlt
   rw [z2T hlt] at hn
   repeat' (first|refine T.zh fun K hK=>?_|apply T.block|(refine T.reg (by kernel_rfl) fun K' hK'=>?_;simp only [bz];(with_reducible repeat' (first|(apply WL.fin;apply hK';clear hK' K')|(refine WL.step fun K2 hK2=>?_;simp only [simprocAttr,az,hd];repeat' (first|(apply hK2;clear hK2 K2)|apply And.intro|intro hb)))))|apply T.skip|apply T.exit|refine T.zg rfl ?_|refine T.zf rfl ?_|refine T.cond rfl (fun hc=>?_) (fun hc=>?_)|apply T.ret|simp only [zb,za,reduceIte,Nat.reduceEqDiff]|((repeat ((fail_if_success apply hK);clear hK K));apply hK;clear hK K))
   refine zH.ret (.inr rfl) Tryz.results100 ?_;simp only [zw,zt,zq,simprocAttr,az,]
   simp [hn]
def z2W (c:Lk) (x:Lk):Bool:=x.obj != c.obj||x.off != c.off
def setL (s:Rs) (c:Lk):Rs := { s with locks:=s.locks.filter (z2W c) ++ [c] }
theorem z6W (s:Rs) (c:Lk) (hl:s.locks.length≤1000000):zx Tryz.prog 99 [rsA s,lkA c] (rsA (setL s c)):=by
 simp only [rsA,rsC,List.map_cons,List.map_nil,lkA,lkC]
 refine zx.of Tryz.func99 rfl 48 rfl (by decide) (by simp [AV.okB]) ?_
 repeat' (first|refine T.zh fun K hK=>?_|apply T.block|(refine T.reg (by kernel_rfl) fun K' hK'=>?_;simp only [bz];(with_reducible repeat' (first|(apply WL.fin;apply hK';clear hK' K')|(refine WL.step fun K2 hK2=>?_;simp only [simprocAttr,az];repeat' (first|(apply hK2;clear hK2 K2)|apply And.intro|intro hb)))))|apply T.skip|apply T.exit|refine T.zg rfl ?_|refine T.zf rfl ?_|refine T.cond rfl (fun hc=>?_) (fun hc=>?_)|apply T.ret|simp only [zb,za,reduceIte,Nat.reduceEqDiff]|((repeat ((fail_if_success apply hK);clear hK K));apply hK;clear hK K))
 refine T.qC (fun k:Nat=>⟨[(0,rsA s),(1,lkA c),(2,.ptr 0 0),(3,.ptr 1 0),(4,.ptr 2 0),(5,.own 3),(6,.int k)],[(3,.row 143 4 (((s.locks.take k).filter (z2W c)).map lkC)),(2,.box 110 [.int 0,.int 0,.p (.val (.slice none 0 0)),.p (.val (.slice none 0 0)),.p (.val (.slice none 0 0)),.p (.val (.slice none 0 0)),.int 0,.int 0,.int 0]),(1,.box 143 ((lkC c).map .p)),(0,.box 110 ((rsC s).map .p))],48,4⟩) (fun k=>k≤s.locks.length) (fun k=>s.locks.length-k) 0 (Nat.zero_le _) ((zk.z7c _ 5 143 4 (show 5<48 by decide) rfl).trans (by refine zk.of' rfl ?_;simp only [wks,reduceIte,Nat.reduceEqDiff,ASt.okB,AV.okB,Nat.reduceLT,implies_true,ASt.add,qJ,Int.natCast_zero,rsA,rsC,lkC,lkA,List.map_cons,List.map_nil,List.take_zero,List.filter_nil])) ?_
 ·rintro k hk KL hKL
  simp only [rsA,rsC,List.map_cons,List.map_nil,lkC,lkA]
  have hln:=z6I s.locks k (z2W c)
  have hmx:((s.locks.take k).filter (z2W c)).length+1≤maxLen:=by unfold maxLen;omega
  have hmy:(((s.locks.take k).filter (z2W c)).length+1)*32≤140737488355328:=by omega
  by_cases hlt:k<s.locks.length
  ·obtain ⟨x,hx⟩:=zQ hlt
   have hd:decide ((k:Int)<(s.locks.length:Int))=true:=by simpa using hlt
   have hyes:z2W c x=true → ∀ s',zk s' _→KL s':=fun h s' hw=>hKL s' (k+1) (by rw [z8H hx h,List.map_append];exact hw) (by omega) (by omega)
   have hno:z2W c x=false → ∀ s',zk s' _→KL s':=fun h s' hw=>hKL s' (k+1) (by rw [filt_no hx h];exact hw) (by omega) (by omega)
   repeat' (first|refine T.zh fun K hK=>?_|apply T.block|(refine T.reg (by kernel_rfl) fun K' hK'=>?_;simp only [bz];(with_reducible repeat' (first|(apply WL.fin;apply hK';clear hK' K')|(refine WL.step fun K2 hK2=>?_;simp only [simprocAttr,az,hx,hd,lkC];repeat' (first|(apply hK2;clear hK2 K2)|apply And.intro|intro hb)))))|apply T.skip|apply T.exit|refine T.zg rfl ?_|refine T.zf rfl ?_|refine T.cond rfl (fun hc=>?_) (fun hc=>?_)|apply T.ret|simp only [zb,za,reduceIte,Nat.reduceEqDiff]|((repeat ((fail_if_success apply hK);clear hK K));apply hK;clear hK K))
   refine T.drw 20 (by kernel_rfl) (by kernel_rfl) fun K' hK'=>?_;simp only [List.map_cons,List.map_nil];(repeat' (first|(with_reducible refine WL.fin ?_;apply hK';clear hK' K')|(with_reducible refine WD.fin ?_)|((with_reducible first|refine WL.step fun K2 hK2=>?_|refine WD.step fun K2 hK2=>?_);simp only [simprocAttr,az,hx,hd,lkC];(repeat' with_reducible (first|(apply hK2;clear hK2 K2)|apply And.intro|intro hb)))));all_goals ((try simp only [zb,za,reduceIte,Nat.reduceEqDiff]);(try ((repeat ((fail_if_success apply hK);clear hK K));apply hK;clear hK K)))
   all_goals repeat' (first|refine T.zh fun K hK=>?_|apply T.block|(refine T.reg (by kernel_rfl) fun K' hK'=>?_;simp only [bz];(with_reducible repeat' (first|(apply WL.fin;apply hK';clear hK' K')|(refine WL.step fun K2 hK2=>?_;simp only [simprocAttr,az,hx,hd,lkC,hmx,hmy,ml_1];repeat' (first|(apply hK2;clear hK2 K2)|apply And.intro|intro hb)))))|apply T.skip|apply T.exit|refine T.zg rfl ?_|refine T.zf rfl ?_|refine T.cond rfl (fun hc=>?_) (fun hc=>?_)|apply T.ret|simp only [zb,za,reduceIte,Nat.reduceEqDiff]|((repeat ((fail_if_success apply hK);clear hK K));apply hK;clear hK K))
   all_goals first
    | (refine hyes ?_ _ ?_;(focus (simp [z2W, *];done));refine zk.of' rfl ?_;simp only [wks,reduceIte,Nat.reduceEqDiff,ASt.okB,AV.okB,Nat.reduceLT,implies_true,zu (show k<1152921504606846976 by omega),rsA,rsC,lkC,lkA,List.map_cons,List.map_nil];done)
    | (refine hno ?_ _ ?_;(focus (simp [z2W, *];done));refine zk.of' rfl ?_;simp only [wks,reduceIte,Nat.reduceEqDiff,ASt.okB,AV.okB,Nat.reduceLT,implies_true,zu (show k<1152921504606846976 by omega),rsA,rsC,lkC,lkA,List.map_cons,List.map_nil];done)
  ·have hd:decide ((k:Int)<(s.locks.length:Int))=false:=by simpa using hlt
   repeat' (first|refine T.zh fun K hK=>?_|apply T.block|(refine T.reg (by kernel_rfl) fun K' hK'=>?_;simp only [bz];(with_reducible repeat' (first|(apply WL.fin;apply hK';clear hK' K')|(refine WL.step fun K2 hK2=>?_;simp only [simprocAttr,az,hd,lkC,hmx,hmy,ml_1];repeat' (first|(apply hK2;clear hK2 K2)|apply And.intro|intro hb)))))|apply T.skip|apply T.exit|refine T.zg rfl ?_|refine T.zf rfl ?_|refine T.cond rfl (fun hc=>?_) (fun hc=>?_)|apply T.ret|simp only [zb,za,reduceIte,Nat.reduceEqDiff]|((repeat ((fail_if_success apply hK);clear hK K));apply hK;clear hK K))
   refine zH.retW (.inr rfl) Tryz.results99 (zk.frz _ 3) ?_;simp only [zw,zt,zq,ASt.frz,ASt.subst,AO.z4c,AO.z5v,AO.z6J,AO.z6k,AO.z3G,AV.z9C,AV.z6i,AV.z5a,AV.z4A,AV.z4a,AV.z3H,AV.z4L,AV.z4l,AV.z5K,AV.z3i,List.filter_cons,List.filter_nil,bne_self_eq_false,Nat.reduceBneDiff,Nat.reduceEqDiff,Bool.false_eq_true,simprocAttr,az]
   rw [List.take_of_length_le (by omega)]
   simp [setL,lkC]
end Go.Proofs.YtdlgoofjechocaaGreatDoor
