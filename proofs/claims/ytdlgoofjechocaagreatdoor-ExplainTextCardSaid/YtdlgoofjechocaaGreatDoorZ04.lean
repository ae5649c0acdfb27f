/- Texts Aj, Ak, Aq, Ao, Ap, At. -/
import Derived.Test.YtdlgoofjechocaaGreatDoorZ03
set_option maxHeartbeats 32000000
set_option maxRecDepth 100000
set_option linter.unusedSimpArgs false
set_option linter.unusedVariables false
namespace Go.Proofs.YtdlgoofjechocaaGreatDoor
open Go.RowKit Go.Sort
inductive Tr (P:Program) (ops:Array Oper):List Oper→ASt→ASt→Prop where
 | nil (s:ASt):Tr P ops [] s s
 | val {o:Oper} {rest:List Oper} {s s' : ASt} {av:AV} {d:Nat} (hg:o.guard=none) (h:zX P ops o s av) (hd:o.dst=some d) (hn:d<s.n) (k:Tr P ops rest (s.put (some d) av) s'):Tr P ops (o :: rest) s s'
 | cond {o:Oper} {rest:List Oper} {s s' : ASt} {av:AV} {d g t:Nat} {b want:Bool} (hg:o.guard=some (g,want)) (ht:(ops[g]?).bind (·.dst)=some t) (hb:s.get t = .bool b) (h:b=want→zX P ops o s av) (hd:o.dst=some d) (hn:d<s.n)
   (k:Tr P ops rest (s.put (some d) (if b=want then av else .tup [])) s'):Tr P ops (o :: rest) s s'
 | und {o:Oper} {rest:List Oper} {s s' : ASt} {d g t:Nat} {want:Bool} (hg:o.guard=some (g,want)) (ht:(ops[g]?).bind (·.dst)=some t) (hb:s.get t = .tup []) (hd:o.dst=some d) (hn:d<s.n)
   (k:Tr P ops rest (s.put (some d) (.tup [])) s'):Tr P ops (o :: rest) s s'
theorem Tr.same {P:Program} {ops:Array Oper} {l:List Oper} {s s' : ASt} (h:Tr P ops l s s'):s'.hp=s.hp∧s'.n=s.n∧s'.N=s.N ∧ ∀ t,(∀ o ∈ l,o.dst ≠ some t)→s'.get t=s.get t:=by
 induction h with
 | nil s=>exact ⟨rfl,rfl,rfl,fun _ _=>rfl⟩
 | val hg h hd hn k ih =>
  obtain ⟨h1,h2,h3,h4⟩:=ih
  refine ⟨h1,h2,h3,fun t ht=>?_⟩
  rw [h4 t (fun o ho=>ht o (List.mem_cons.2 (.inr ho))),ASt.get_put,if_neg]
  exact fun e=>ht _ (List.mem_cons.2 (.inl rfl)) (by rw [hd,e])
 | cond hg ht hb h hd hn k ih =>
  obtain ⟨h1,h2,h3,h4⟩:=ih
  refine ⟨h1,h2,h3,fun t ht=>?_⟩
  rw [h4 t (fun o ho=>ht o (List.mem_cons.2 (.inr ho))),ASt.get_put,if_neg]
  exact fun e=>ht _ (List.mem_cons.2 (.inl rfl)) (by rw [hd,e])
 | und hg ht hb hd hn k ih =>
  obtain ⟨h1,h2,h3,h4⟩:=ih
  refine ⟨h1,h2,h3,fun t ht=>?_⟩
  rw [h4 t (fun o ho=>ht o (List.mem_cons.2 (.inr ho))),ASt.get_put,if_neg]
  exact fun e=>ht _ (List.mem_cons.2 (.inl rfl)) (by rw [hd,e])
def z7u (ops:Array Oper):List Oper→Bool
 | []=>true
 | o :: r=>(o :: r).all (fun o'=>match o'.dst with|some d => !(o.looksAt ops).contains d|none=>true)&&z7u ops r
theorem z3Z {X:Nat→Prop} {ops:Array Oper} {L:Lim} {s:ASt} {loc:Nat→Option Value} {a:Act} {w:World} {o:Oper} {g t:Nat} {want:Bool} (hr:Rel X L s loc a w) (hX:X t) (hg:o.guard=some (g,want)) (ht:(ops[g]?).bind (·.dst)=some t) (hb:s.get t = .tup []):Region.wanted o (yielded ops a.tmps)=false:=by
  have h1:=hr.fr t hX
  rw [hb] at h1
  have h2:slot a t = .tuple #[]:=by
    generalize hv:slot a t=v at h1
    cases h1 with
    | tup cs vs hl _ => have : vs = #[] := Array.eq_empty_of_size_eq_zero (by simpa using hl)
                        rw [this]
  have h3 : ∀ b,a.tmps[t]? ≠ some (.bool b):=fun b e=>by
    unfold slot at h2
    rw [Array.getD_eq_getD_getElem?,e] at h2
    cases h2
  simp only [Region.wanted,hg,yielded,ht,Option.bind_some]
  cases h4:a.tmps[t]? with
  | none=>rfl
  | some v =>
    cases v <;> first|rfl|exact absurd h4 (h3 _)
theorem Tr.each {P:Program} {ops:Array Oper} {l:List Oper} {s s' : ASt} (h:Tr P ops l s s') (hap:(dstsOf l).Nodup) (hl:z7u ops l=true) : ∀ o ∈ l,∃ d,o.dst=some d∧d<s.n ∧
  ∀ L loc (a:Act) (w:World),a.tmps.size=s.n→HRel L s.N s.hp loc w→(∀ t ∈ o.looksAt ops,AR s.N (Dm L loc) loc w (s'.get t) (slot a t)) →
   if Region.wanted o (yielded ops a.tmps)=true then
    (∃ v w',(execOp a.eval o).run P w = .ok (.value v) w' ∧ Blw w.heap.size w w' ∧ AR s.N (Dm L loc) loc w' (s'.get d) v) ∨
    (∃ f args,(execOp a.eval o).run P w = .ok (.enter f args) w∧Calls P f args w fun e w' => ∃ v,e = .returned v∧Blw w.heap.size w w' ∧ AR s.N (Dm L loc) loc w' (s'.get d) v)
   else AR s.N (Dm L loc) loc w (s'.get d) undef:=by
 have back : ∀ {o:Oper} {rest:List Oper} {s s' : ASt} {d:Nat} {x:AV},Tr P ops rest (s.put (some d) x) s' → o.dst=some d→z7u ops (o :: rest)=true → ∀ t ∈ o.looksAt ops,s'.get t=s.get t:=by
  intro o rest s s' d x k hd hl t ht
  simp only [z7u,Bool.and_eq_true,List.all_eq_true] at hl
  have hno : ∀ o' ∈ o :: rest,o'.dst ≠ some t:=fun o' ho' e=>by
   have:=hl.1 o' ho'
   rw [e] at this
   simp at this
   exact this ht
  rw [k.same.2.2.2 t (fun o' ho'=>hno o' (List.mem_cons.2 (.inr ho'))),ASt.get_put,if_neg (fun e=>hno o (List.mem_cons.2 (.inl rfl)) (by rw [hd,e]))]
 have mine : ∀ {o:Oper} {rest:List Oper} {s s' : ASt} {d:Nat} {x:AV},Tr P ops rest (s.put (some d) x) s' → o.dst=some d→(dstsOf (o :: rest)).Nodup→s'.get d=x:=by
  intro o rest s s' d x k hd hn
  rw [k.same.2.2.2 d (fun o' ho' e=>?_),ASt.get_put,if_pos rfl]
  simp only [dstsOf,List.filterMap_cons,hd] at hn
  exact (List.nodup_cons.1 hn).1 (List.mem_filterMap.2 ⟨o',ho',e⟩)
 have tail : ∀ {o:Oper} {rest:List Oper},(dstsOf (o :: rest)).Nodup→(dstsOf rest).Nodup:=by
  intro o rest hn
  simp only [dstsOf,List.filterMap_cons] at hn
  split at hn
  ·exact hn
  ·exact (List.nodup_cons.1 hn).2
 have act : ∀ {s:ASt} {L:Nat→Prop} {loc:Nat→Option Value} {a:Act} {w:World} {o:Oper} {s' : ASt},a.tmps.size=s.n→HRel L s.N s.hp loc w→(∀ t ∈ o.looksAt ops,AR s.N (Dm L loc) loc w (s'.get t) (slot a t))→(∀ t ∈ o.looksAt ops,s'.get t=s.get t)→Rel (looks ops o) ⟨L,[]⟩ s loc { tmps:=a.tmps,defers := [] } w:=by
  intro s L loc a w o s' h1 h2 h3 h4
  exact ⟨rfl,h1,fun t ht=>by rw [← h4 t ht];exact h3 t ht,h2⟩
 have ev : ∀ (a:Act),Act.eval { tmps:=a.tmps,defers := [] } = a.eval:=fun a=>by funext x;cases x <;> rfl
 induction h with
 | nil s=>intro o ho;cases ho
 | @val o rest s s' av d hg h hd hn k ih =>
  intro o' ho'
  rcases List.mem_cons.1 ho' with rfl|ho'
  ·refine ⟨d,hd,hn,fun L loc a w h1 h2 h3=>?_⟩
   have hr:=act h1 h2 h3 (back k hd hl)
   rw [if_pos (by simp [Region.wanted,hg]),mine k hd hap,← ev a]
   exact h ⟨L,[]⟩ loc _ w hr
  ·simp only [z7u,Bool.and_eq_true] at hl
   exact ih (tail hap) hl.2 o' ho'
 | @cond o rest s s' av d g t b want hg ht hb h hd hn k ih =>
  intro o' ho'
  rcases List.mem_cons.1 ho' with rfl|ho'
  ·refine ⟨d,hd,hn,fun L loc a w h1 h2 h3=>?_⟩
   have hr:=act h1 h2 h3 (back k hd hl)
   have hm:t ∈ o'.looksAt ops:=List.mem_append.2 (.inr (by simp [hg,ht]))
   have hbt:=z1g hr (t:=t) hm hb
   have hwt:Region.wanted o' (yielded ops a.tmps)=(b==want):=by
    simp only at hbt
    simp only [Region.wanted,hg,yielded,ht,hbt,Option.bind_some]
    cases b <;> cases want <;> rfl
   rw [hwt,mine k hd hap,← ev a]
   by_cases e:b=want
   ·rw [if_pos (by simpa using e),if_pos e]
    exact h e ⟨L,[]⟩ loc _ w hr
   ·rw [if_neg (by simpa using e),if_neg e]
    exact .tup [] #[] rfl (fun j x hx=>by simp at hx)
  ·simp only [z7u,Bool.and_eq_true] at hl
   exact ih (tail hap) hl.2 o' ho'
 | @und o rest s s' d g t want hg ht hb hd hn k ih =>
  intro o' ho'
  rcases List.mem_cons.1 ho' with rfl|ho'
  ·refine ⟨d,hd,hn,fun L loc a w h1 h2 h3=>?_⟩
   have hr:=act h1 h2 h3 (back k hd hl)
   have hm:t ∈ o'.looksAt ops:=List.mem_append.2 (.inr (by simp [hg,ht]))
   have hun:=z3Z (o:=o') hr hm hg ht hb
   simp only at hun
   rw [if_neg (by rw [hun];simp),mine k hd hap]
   exact .tup [] #[] rfl (fun j x hx=>by simp at hx)
  ·simp only [z7u,Bool.and_eq_true] at hl
   exact ih (tail hap) hl.2 o' ho'
theorem z6N {ds:List Tmp} {G:Tmp→World→Value→Prop} {a:Act} {t:Tmp} {w:World} {v:Value} : Dn.FofL ds (ds.map G) a t w v↔(t ∈ ds∧G t w v)∨(t ∉ ds∧v=slot a t):=by
 induction ds with
 | nil=>simp [Dn.FofL]
 | cons d r ih =>
  simp only [List.map_cons,Dn.FofL]
  by_cases e:t=d
  ·subst e;simp
  ·rw [if_neg e,ih];simp [e]
theorem z7z {P:Program} {ops:Array Oper} {W:World} {size:Nat} {F:Tmp→World→Value→Prop} : ∀ {l:List Oper},(∀ o ∈ l,Dn.z7F P ops W size F o)→Dn.z4u P ops W size F l
 | [],_=>trivial
 | o :: r,h=>⟨h o (List.mem_cons.2 (.inl rfl)),z7z fun x hx=>h x (List.mem_cons.2 (.inr hx))⟩
theorem z6a : ∀ {l:List (World→Value→Prop)},(∀ G ∈ l,∀ v w q,G w v→G (gm w q) v)→Dn.z2w l
 | [],_=>trivial
 | G :: r,h=>⟨h G (List.mem_cons.2 (.inl rfl)),z6a fun x hx=>h x (List.mem_cons.2 (.inr hx))⟩
def drawB (l:List Oper) (n size:Nat):Bool:=Dn.relB l.toArray n size&&decide ((dstsOf (l.take n)).Nodup)&&z7u l.toArray (l.take n)
theorem T.draw {F:Fence} [FOk F] {P:Program} {Q:Exit→ASt→Prop} {s s' : ASt} {id:Nat} {l lt:List Oper} (n:Nat) (hm:P.follows .mixedOrders=true) (hnd:z2r l=true) (hB:drawB l n s.n=true) (ht:l.drop n=lt) (h:Tr P l.toArray (l.take n) s s') (k:TL P l.toArray (NQ Q) lt s'):T F P (.region id l.toArray true) Q s:=fun L loc a w hr=>by
 refine wpIn_mono (wpIn_region_any hm (z5s NQ.out (z0M hnd) _ _ _ _ ?_)) fun _ _ _ k=>NQ.post k
 change wpAny P .any l.toArray (z10 L loc w (NQ Q)) _ _ a w.drew
 simp only [drawB,Bool.and_eq_true,decide_eq_true_eq] at hB
 obtain ⟨⟨hB,hnd⟩,hlate⟩:=hB
 have hsame:=h.same
 have hr0:HRel L s.N s.hp loc w.drew:=hr.hp.below (Blw.refl _ _).drew
 have hrp : ∀ p,HRel L s.N s.hp loc (gm w.drew p):=fun p=>hr0.below (z6z _ p)
 have bl : ∀ p,Blw w.heap.size w (gm w.drew p):=fun p=>((Blw.refl _ w).drew).trans (z6z w.drew p)
 let G:Tmp→World→Value→Prop:=fun t W v=>AR s.N (Dm L loc) loc W (s'.get t) v
 have all : ∀ {t:Tmp} {p:Regrown} {v:Value},Dn.FofL (dstsOf (l.take n)) ((dstsOf (l.take n)).map G) a t (gm w.drew p) v→AR s.N (Dm L loc) loc (gm w.drew p) (s'.get t) v:=by
  intro t p v hF
  rcases z6N.1 hF with ⟨_,h1⟩|⟨h1,rfl⟩
  ·exact h1
  ·rw [hsame.2.2.2 t (fun o ho e=>h1 (List.mem_filterMap.2 ⟨o,ho,e⟩))]
   exact (hr.fr t trivial).blw (bl p)
 refine Dn.z8W n (dstsOf (l.take n)) ((dstsOf (l.take n)).map G) (by rw [hr.size];exact hB) rfl rfl ht (z6a fun G' hG'=>?_) (z7z fun o ho=>?_) (fun b p hdf hsz hout hF=>?_)
 ·obtain ⟨d,_,rfl⟩:=List.mem_map.1 hG'
  exact fun v W q h=>h.blw (z6z W q)
 ·intro d hd b p hsz hs
  obtain ⟨d',hd',_,hev⟩:=h.each hnd hlate o ho
  rw [hd] at hd'
  cases hd'
  have h1:=hev L loc b (gm w.drew p) (hsz.trans hr.size) (hrp p) (fun t ht=>all (hs t ht))
  have hdm:d ∈ dstsOf (l.take n):=List.mem_filterMap.2 ⟨o,ho,hd⟩
  split
  ·rename_i hw
   rw [if_pos hw] at h1
   rcases h1 with ⟨v,w',e1,e2,e3⟩|⟨f,args,e1,e2⟩
   ·rw [e1]
    exact ⟨z6N.2 (.inl ⟨hdm,e3⟩),z5l e2⟩
   ·rw [e1]
    exact ⟨rfl,e2.mono fun e w' ⟨v,g1,g2,g3⟩=>⟨v,g1,z6N.2 (.inl ⟨hdm,g3⟩),z5l g2⟩⟩
  ·rename_i hw
   rw [if_neg hw] at h1
   exact z6N.2 (.inl ⟨hdm,h1⟩)
 ·have hrel:Rel All L s' loc b (gm w.drew p):=⟨hdf.trans hr.defers,by rw [hsz,hr.size,hsame.2.1],fun t _=>by rw [hsame.2.2.1];exact all (hF t),by rw [hsame.1,hsame.2.2.1];exact hrp p⟩
  exact z0s (fun _ _ _ k=>k.ext (.of_below (bl p))) lt b _ (k L loc b _ hrel)
def WOv (P:Program) (o:Oper) (s:ASt) (K:ASt→Prop):Prop:=match o.op with
 | .call { callee := .value (.func f),args:=args,.. } => ∃ r,CallV P s f (args.toList.map s.ev) r∧K (s.put o.dst r)
 | .call { callee := .value (.tmp t),args:=args,.. }=>match s.get t with
  | .fn (.func f) caps => ∃ r,CallR P s f caps (args.toList.map s.ev) r∧K (s.put o.dst r)
  | _=>False
 | op=>match aop P s op with
  | some av=>K (s.put o.dst av)
  | none=>False
def hasDst (o:Oper) (s:ASt):Prop:=match o.dst with
 | some d=>d<s.n
 | none=>False
def WH (P:Program) (ds:List (Option Nat)) (o:Oper) (s:ASt) (K:ASt→Prop):Prop:=hasDst o s∧match o.guard with
 | none=>WOv P o s K
 | some (g,want)=>match ds[g]? with
  | some (some t)=>match s.get t with
   | .p (.val (.bool b))=>WG b want (WOv P o (s.put (some t) (.bool want)) K) (K ((s.put (some t) (.bool (!want))).put o.dst (.tup [])))
   | .tup []=>K (s.put o.dst (.tup []))
   | _=>False
  | _=>False
def WD (P:Program) (ds:List (Option Nat)) (Q:ASt→Prop):Nat→List Oper→ASt→Prop
 | 0,l,s=>WL P ds Q l s
 | _+1,[],s=>Q s
 | n+1,o :: rest,s=>WH P ds o s (WD P ds Q n rest)
theorem WD.step {P:Program} {ds:List (Option Nat)} {Q:ASt→Prop} {n:Nat} {o:Oper} {rest:List Oper} {s:ASt} (h : ∀ K:ASt→Prop,(∀ s,WD P ds Q n rest s→K s)→WH P ds o s K):WD P ds Q (n+1) (o :: rest) s:=h _ fun _ h=>h
theorem WD.fin {P:Program} {ds:List (Option Nat)} {Q:ASt→Prop} {l:List Oper} {s:ASt} (h:WL P ds Q l s):WD P ds Q 0 l s:=h
theorem Tr.congr {P:Program} {ops:Array Oper} {l:List Oper} {s s' : ASt} (h:Tr P ops l s s') : ∀ {s2:ASt},Sq s s2 → ∃ s2',Tr P ops l s2 s2' ∧ Sq s' s2':=by
 induction h with
 | nil s=>exact fun k=>⟨_,.nil _,k⟩
 | val hg h hd hn k ih =>
  intro s2 e
  obtain ⟨s2',h1,h2⟩:=ih (e.put (some _) _)
  exact ⟨s2',.val hg (e.val h) hd (by rw [e.n];exact hn) h1,h2⟩
 | cond hg ht hb h hd hn k ih =>
  intro s2 e
  obtain ⟨s2',h1,h2⟩:=ih (e.put (some _) _)
  exact ⟨s2',.cond hg ht (by rw [e.get];exact hb) (fun g=>e.val (h g)) hd (by rw [e.n];exact hn) h1,h2⟩
 | und hg ht hb hd hn k ih =>
  intro s2 e
  obtain ⟨s2',h1,h2⟩:=ih (e.put (some _) _)
  exact ⟨s2',.und hg ht (by rw [e.get];exact hb) hd (by rw [e.n];exact hn) h1,h2⟩
theorem WD.sound {P:Program} {ops:Array Oper} {Q:Exit→ASt→Prop} : ∀ {n:Nat} {l:List Oper} {s:ASt},WD P (ops.toList.map (·.dst)) (Q .normal) n l s → ∃ s',Tr P ops (l.take n) s s' ∧ TL P ops Q (l.drop n) s'
 | 0,l,s,h=>⟨s,by rw [List.take_zero];exact .nil s,WL.sound h⟩
 | n+1,[],s,h=>⟨s,.nil s,TL.nil h⟩
 | n+1,o :: rest,s,h=>by
  obtain ⟨hd,h⟩:=h
  obtain ⟨d,hd',hn⟩ : ∃ d,o.dst=some d∧d<s.n:=by
   unfold hasDst at hd
   split at hd
   ·exact ⟨_,‹_›,hd⟩
   ·exact hd.elim
  have dec : ∀ {s:ASt} {K:ASt→Prop},WOv P o s K → ∃ av,zX P ops o s av∧K (s.put o.dst av):=fun {s K} h=>by
   unfold WOv at h
   split at h
   ·rename_i f args tys ho
    obtain ⟨r,h1,h2⟩:=h
    exact ⟨r,h1.val ho,h2⟩
   ·rename_i t args tys ho
    split at h
    ·rename_i f caps hf
     obtain ⟨r,h1,h4⟩:=h
     exact ⟨r,h1.val ho hf,h4⟩
    ·exact h.elim
   ·split at h
    ·rename_i av hav
     exact ⟨av,z3F hav,h⟩
    ·exact h.elim
  split at h
  ·rename_i hg
   obtain ⟨av,hv,k⟩:=dec h
   rw [hd'] at k
   obtain ⟨s',h1,h2⟩:=WD.sound k
   exact ⟨s',.val hg hv hd' hn h1,h2⟩
  ·rename_i g want hg
   split at h
   ·rename_i t ht
    have ht' : (ops[g]?).bind (·.dst)=some t:=by
     simp only [List.getElem?_map,Option.map_eq_some_iff,Array.getElem?_toList] at ht
     obtain ⟨o',h1,h2⟩:=ht
     rw [h1];exact h2
    split at h
    ·rename_i b hb
     by_cases hbw:b=want
     ·have e:=Sq.same (s:=s) (t:=t) (x := .bool want) (by rw [hb,hbw])
      obtain ⟨av,hv,k⟩:=dec (h.1 hbw)
      rw [hd'] at k
      obtain ⟨s',h1,h2⟩:=WD.sound k
      obtain ⟨s2,h3,h4⟩:=h1.congr (e.symm.put (some d) av)
      exact ⟨s2,.cond (av:=av) hg ht' hb (fun _=>e.symm.val hv) hd' hn (by rw [if_pos hbw];exact h3),TL.weak h4.symm.weak h2⟩
     ·have hbn:b=(!want):=by cases b <;> cases want <;> simp_all
      have e:=Sq.same (s:=s) (t:=t) (x := .bool (!want)) (by rw [hb,hbn])
      have k:=h.2 hbn
      rw [hd'] at k
      obtain ⟨s',h1,h2⟩:=WD.sound k
      obtain ⟨s2,h3,h4⟩:=h1.congr (e.symm.put (some d) (.tup []))
      exact ⟨s2,.cond (av := .zA) hg ht' hb (fun e=>absurd e hbw) hd' hn (by rw [if_neg hbw];exact h3),TL.weak h4.symm.weak h2⟩
    ·rename_i hb
     rw [hd'] at h
     obtain ⟨s',h1,h2⟩:=WD.sound h
     exact ⟨s',.und hg ht' hb hd' hn h1,h2⟩
    ·exact h.elim
   ·exact h.elim
theorem T.draw' {F:Fence} [FOk F] {P:Program} {Q:Exit→ASt→Prop} {s:ASt} {id:Nat} {l:List Oper} (n:Nat) (hm:P.follows .mixedOrders=true) (hnd:z2r l=true) (hB:drawB l n s.n=true) (h:WD P (l.map (·.dst)) (Q .normal) n l s):T F P (.region id l.toArray true) Q s:=by
 obtain ⟨s',h1,h2⟩:=WD.sound (ops:=l.toArray) (Q:=NQ Q) (by rw [show NQ Q .normal=Q .normal from funext (NQ.normal Q)];simpa using h)
 exact T.draw n hm hnd hB rfl h1 h2
section
variable {F:Fence} {P:Program} {Q:Exit→ASt→Prop} {s:ASt}
theorem T.zh {x y:Code} (h : ∀ K:ASt→Prop,(∀ s,T F P y Q s→K s)→T F P x (zb K Q) s):T F P (.seq x y) Q s:=T.seq (h _ fun _ h=>h)
theorem T.reg [FOk F] {id:Nat} {l:List Oper} (hd:z2r l=true) (h : ∀ K:ASt→Prop,(∀ s,Q .normal s→K s)→WL P (l.map (·.dst)) K l s):T F P (.region id l.toArray false) Q s:=T.region' hd (h _ fun _ h=>h)
theorem T.drw [FOk F] {id:Nat} {l:List Oper} (n:Nat) (hm:P.follows .mixedOrders=true) (hB:(z2r l&&drawB l n s.n)=true) (h : ∀ K:ASt→Prop,(∀ s,Q .normal s→K s)→WD P (l.map (·.dst)) K n l s):T F P (.region id l.toArray true) Q s:=T.draw' n hm (Bool.and_eq_true_iff.1 hB).1 (Bool.and_eq_true_iff.1 hB).2 (h _ fun _ h=>h)
theorem T.zg {c:Operand} {x y:Code} (hc:s.ev c = .p (.val (.bool true))) (h:T F P x Q s):T F P (.cond c x y) Q s:=T.cond hc (fun _=>h) (fun e=>by cases e)
theorem T.zf {c:Operand} {x y:Code} (hc:s.ev c = .p (.val (.bool false))) (h:T F P y Q s):T F P (.cond c x y) Q s:=T.cond hc (fun e=>by cases e) (fun _=>h)
theorem T.qC {ι:Type} {c:Code} (S : ι→ASt) (I : ι→Prop) (μ : ι→Nat) (i₀ : ι) (hI:I i₀) (h0:zk s (S i₀)) (hr : ∀ i,I i → ∀ K:ASt→Prop,(∀ s' j,zk s' (S j)→I j → μ j<μ i→K s')→T F P c (zb K Q) (S i)):T F P (.loop c) Q s :=
 T.loop (ι := {i : ι // I i}) (fun i=>S i.1) (fun i => μ i.1) ⟨i₀,hI⟩ h0 fun i=>hr i.1 i.2 _ fun _ j h1 h2 h3=>⟨⟨j,h2⟩,h1,h3⟩
end
theorem cv_int (k:IntKind) (n:Int):cv (.int k n) = .p (.val (.int k n)):=rfl
theorem cv_bool (b:Bool):cv (.bool b) = .p (.val (.bool b)):=rfl
theorem cv_slice (a:Option Addr) (n c:Nat):cv (.slice a n c) = .p (.val (.slice a n c)):=rfl
theorem cv_string (s:ByteArray):cv (.string s) = .p (.val (.string s)):=rfl
theorem cv_ptr (a:Option Addr):cv (.pointer a) = .p (.val (.pointer a)):=rfl
theorem get_mk (fr:List (Nat × AV)) (hp:Hp) (n N t:Nat):ASt.get ⟨fr,hp,n,N⟩ t=(fr.lookup t).getD .zA:=rfl
theorem qJ (fr:List (Nat × AV)) (hp:Hp) (n N t:Nat) (x:AV):ASt.put ⟨fr,hp,n,N⟩ (some t) x=⟨(t,x) :: fr,hp,n,N⟩:=rfl
theorem z8J (s:ASt) (x:AV):ASt.put s none x=s:=rfl
theorem qP {α:Type} (t:Nat):List.lookup t ([] : List (Nat × α))=none:=rfl
theorem zy {α:Type} (t k:Nat) (x : α) (l:List (Nat × α)):List.lookup t ((k,x) :: l)=if t=k then some x else List.lookup t l:=by
 by_cases h:t=k
 ·subst h;simp
 ·have:(t==k)=false:=by simpa using h
  rw [List.lookup_cons,this,if_neg h]
theorem AV.z9C (t:Nat) (y:AV) (x:PV):AV.sub t y (.p x) = .p x:=by simp [AV.sub]
theorem AV.z6i (t:Nat) (y:AV) (r:List PV) (k:Nat):AV.sub t y (.elt r k) = .elt r k:=by simp [AV.sub]
theorem AV.z5a (t:Nat) (y:AV) (k j:Nat):AV.sub t y (.ptr k j)=if k=t then .zA else .ptr k j:=by simp [AV.sub]
theorem AV.z4A (t:Nat) (y:AV) (k n i j:Nat):AV.sub t y (.rptr k n i j)=if k=t then .zA else .rptr k n i j:=by simp [AV.sub]
theorem AV.z4a (t:Nat) (y:AV) (k:Nat):AV.sub t y (.own k)=if k=t then y else .own k:=by simp [AV.sub]
theorem AV.sub_pre (t:Nat) (y:AV) (k m:Nat):AV.sub t y (.pre k m)=if k=t then .zA else .pre k m:=by simp [AV.sub]
theorem AV.z3H (t:Nat) (y:AV):AV.sub t y .zA = .zA:=by simp [AV.sub]
theorem AV.z4L (t:Nat) (y:AV):AV.sub t y .cap0 = .cap0:=by simp [AV.sub]
theorem ml_1:(1≤maxLen)=True:=eq_true (by decide)
theorem ml_3:(3≤maxLen)=True:=eq_true (by decide)
theorem ml_7:(7≤maxLen)=True:=eq_true (by decide)
theorem ml_21:(21≤maxLen)=True:=eq_true (by decide)
theorem z4h {x:Int} (h0 : -9223372036854775808≤x) (h1:x≤9223372036854775807):IntKind.i64.wrap x=x:=by rw [IntKind.wrap_i64];omega
theorem AVle_refl (x:AV):AVle x x=True:=eq_true (AVle.refl x)
theorem AVle_nil (n:Nat):AVle (.p (.val (.slice none 0 0))) (.p (.seq n []))=True:=eq_true (AVle.nil n)
theorem AVle_junk (x:AV):AVle x .zA=True:=eq_true (AVle.zA x)
theorem AVle_int (k:IntKind) (a b:Int):AVle (.p (.val (.int k a))) (.p (.val (.int k b)))=(a=b):=propext ⟨fun h=>by
 have h1:=h 0 (fun _=>False) (fun _=>none) default (.int k a) (.zV _ rfl)
 have:=h1.val
 cases this;rfl,fun h=>h ▸ AVle.refl _⟩
theorem AVle_bool (a b:Bool):AVle (.p (.val (.bool a))) (.p (.val (.bool b)))=(a=b):=propext ⟨fun h=>by
 have h1:=h 0 (fun _=>False) (fun _=>none) default (.bool a) (.zV _ rfl)
 have:=h1.val
 cases this;rfl,fun h=>h ▸ AVle.refl _⟩
theorem zk.of' {s s' : ASt} (hn:s'.n=s.n) (h:(∀ p ∈ s'.fr,AVle (s.get p.1) p.2)∧(∀ p ∈ s'.hp,s.hp.lookup p.1=some p.2)∧s'.okB=true):zk s s':=zk.of hn h.1 h.2.1 h.2.2
theorem Ent.of {P : Program} {f : FuncId} {fn : Func} {c : Code} (hf : P.funcs[f]? = some fn) (hname : (fn.name == "runtime.NumGoroutine") = false) (hb : fn.body = some c) : Ent P f := fun args w => by
  have h1 : fn.name ≠ "runtime.NumGoroutine" := by simpa using hname
  simp [callFunc, hf, h1, hb, mark]
theorem zu {k:Nat} (h:k<1152921504606846976):IntKind.i64.wrap ((k:Int)+1)=((k+1:Nat):Int):=by rw [IntKind.wrap_i64];omega
theorem zH.ret {P:Program} {fn:Func} {r:AV} {s:ASt} {e:Exit} (he:e = .normal∨e = .ret) {rs:Array ResultVar} (hrs:fn.results=rs) (h:zw P s rs.toList=some r):zH P fn r e s:=⟨he,s,zk.refl _,by rw [hrs];exact h⟩
theorem zH.retW {P:Program} {fn:Func} {r:AV} {s s' : ASt} {e:Exit} (he:e = .normal∨e = .ret) {rs:Array ResultVar} (hrs:fn.results=rs) (hw:zk s s') (h:zw P s' rs.toList=some r):zH P fn r e s:=⟨he,s',hw,by rw [hrs];exact h⟩
section
variable {P:Program} {o:Oper} {s:ASt}
theorem z9K (x y:Operand) (ty tag:Nat) (e n bytes:Nat) (rows ys:List (List PV)) (h:o.op = .call { callee := .builtin .append,args := #[x,y],argTypes := #[ty,ty] }) (hx:s.ev x = .own tag) (hlk:s.hp.lookup tag=some (.row e n rows))
  (ht:zW P ty=some (e,n,bytes)) (hy:s.ev y = .p (.seq n ys)) (h63:rows.length+ys.length≤maxLen) (hbytes:(rows.length+ys.length)*bytes≤140737488355328) (hd : ∀ t,o.dst=some t→t<s.n) :
  z1t P o s (ASt.put { s with hp:=(s.N,.row e n (rows++ys)) :: s.hp.filter fun p=>p.1 != tag,N:=s.N+1 } o.dst (.own s.N)):=fun L loc a w hr=>by
 have h1:=hr.ev x (fun _ _=>trivial)
 have h2:=hr.ev y (fun _ _=>trivial)
 rw [hx] at h1
 rw [hy] at h2
 obtain ⟨htN,u,hu,hor⟩:=hr.hp.at' tag _ hlk
 obtain ⟨flat,hown,hrn,hfl,hone⟩:=hor
 generalize hax:a.eval x=ax at h1
 cases h1 with
 | own _ _ _ _ hv =>
 obtain rfl:u=ax:=(hv u hu).symm
 generalize hay:a.eval y=ay at h2
 cases h2 with
 | p _ _ hp =>
 obtain ⟨v',w',news,hrun,hown',hg,hat,hone2,hyn,hpr⟩:=z0Y (P:=P) (ty:=o.type) (z0A ht) hown hp h63 hbytes
 let loc2:Nat→Option Value:=fun k=>if k=s.N then some v' else if k=tag then none else loc k
 have lN:loc2 s.N=some v':=by simp [loc2]
 have lO : ∀ k z,loc2 k=some z→(k=s.N∧z=v')∨(k ≠ s.N∧k ≠ tag∧loc k=some z):=fun k z hz=>by
  simp only [loc2] at hz
  split at hz
  ·rename_i e1;cases hz;exact .inl ⟨e1,rfl⟩
  ·rename_i e1
   split at hz
   ·cases hz
   ·rename_i e2;exact .inr ⟨e1,e2,hz⟩
 have lS : ∀ k,k ≠ s.N→k ≠ tag→loc2 k=loc k:=fun k h1 h2=>by simp [loc2,h1,h2]
 have hblk : ∀ b,zP v' = some b→zP u=some b∨b=w.heap.size:=fun b hb=>by
  have hb':=z6t hown' hb
  rcases hat with e'|e'
  ·rw [e'] at hb';exact .inl (z0O hb')
  ·rw [e'] at hb';cases hb';exact .inr rfl
 have hDu : ∀ b,u.ownBlock=some b→Dm L loc b:=fun b hb => .inr ⟨tag,u,hu,z0O hb⟩
 have hk:Kp (Dm L loc) w w':=⟨hg.os,hg.tape,hg.output,hg.size,fun k hk hn=>hg.block k hk (fun e=>hn (hDu k e.symm))⟩
 have hdm : ∀ b,Dm L loc2 b→Dm L loc b∨b=w.heap.size:=fun b hb=>by
  rcases hb with hb|⟨k,z,h3,h4⟩
  ·exact .inl (.inl hb)
  ·rcases lO k z h3 with ⟨_,rfl⟩|⟨_,_,h5⟩
   ·exact (hblk b h4).imp (fun h => .inr ⟨tag,u,hu,h⟩) (fun h=>h)
   ·exact .inl (.inr ⟨k,z,h5,h4⟩)
 have hD : ∀ k,k<w.heap.size→Dm L loc2 k→Dm L loc k:=fun k hk hd=>(hdm k hd).resolve_right (by omega)
 have hlc : ∀ k z,k<s.N→loc2 k=some z→loc k=some z:=fun k z hlt hz=>by
  rcases lO k z hz with ⟨e1,_⟩|⟨_,_,h5⟩
  ·omega
  ·exact h5
 have hrun' : (execOp a.eval o).run P w = .ok (.value v') w':=by
  simp only [execOp,h,resolve,invoke,builtin,Sem.run_bind,Sem.run_pure,Result.andThen_ok,List.map_toArray,List.map_cons,List.map_nil,hax,hay,hrun]
 have hv1:v'.oneCell' = true:=by rcases hown'.2 with ⟨rfl,_⟩|⟨g,c,cur,rfl,_⟩ <;> rfl
 have hNd:loc s.N=none:=hr.hp.dead s.N (hr.hp.z6X (Nat.le_refl _))
 unfold Oper.wp
 rw [hrun']
 refine ⟨loc2,?_,⟨⟨hg.os,hg.tape,hg.output,hg.size,fun k hk hn=>hg.block k hk (fun e=>hn (.inr ⟨tag,u,hu,z0O e.symm⟩))⟩,fun b hb=>?_⟩⟩
 ·refine Rel.put' (s := { s with hp:=(s.N,.row e n (rows++ys)) :: s.hp.filter fun p=>p.1 != tag,N:=s.N+1 }) ⟨hr.defers,hr.size,fun t _=>?_,⟨fun t ob ht=>?_,fun t ht=>?_,fun t t' z z' b e1 e2 e3 e4=>?_,fun b hL=>Nat.lt_of_lt_of_le (hr.hp.inL b hL) hg.size,fun t z b e1 e2 hL=>?_⟩⟩ hd (.own s.N v' (Nat.lt_succ_self _) hv1 fun z hz=>?_)
  ·exact (hr.fr t trivial).mono (Nat.le_succ _) hk hD hlc
  ·change List.lookup t ((s.N,_) :: List.filter _ _)=some ob at ht
   by_cases e1:t=s.N
   ·subst e1
    rw [zi] at ht
    cases ht
    refine ⟨Nat.lt_succ_self _,v',lN,flat++news,by rw [List.length_append];exact hown',fun r hr'=>(List.mem_append.1 hr').elim (hrn r) (hyn r),?_,fun v hv=>(List.mem_append.1 hv).elim (hone v) (hone2 v)⟩
    have:=z2n hown.1 hfl hpr
    exact fun k r j x h1 h2=>let ⟨v,h3,h4⟩:=this k r j x h1 h2;⟨v,h3,h4.mono hk hD⟩
   ·rw [ze e1,qz] at ht
    split at ht
    ·cases ht
    ·rename_i e2
     obtain ⟨h5,z,h6,h7⟩:=hr.hp.at' t ob ht
     refine ⟨Nat.lt_succ_of_lt h5,z,by rw [lS t e1 e2];exact h6,h7.mono (Nat.le_succ _) hk hD hlc (fun b hb=>hg.block b (h7.z0G hb) (fun e'=>?_))⟩
     exact e2 (hr.hp.apart t tag z u b h6 hu hb (z0O e'.symm))
  ·change List.lookup t ((s.N,_) :: List.filter _ _)=none at ht
   by_cases e1:t=s.N
   ·subst e1;rw [zi] at ht;cases ht
   ·rw [ze e1,qz] at ht
    by_cases e2:t=tag
    ·simp [loc2,e2];intro e3;omega
    ·rw [if_neg e2] at ht
     rw [lS t e1 e2];exact hr.hp.dead t ht
  ·have new : ∀ k z,k ≠ s.N→k ≠ tag→loc k=some z→zP z=some b→zP v' = some b→False:=fun k z h3 h4 h5 h6 h7=>by
    rcases hblk b h7 with e5|e5
    ·exact h4 (hr.hp.apart k tag z u b h5 hu h6 e5)
    ·obtain ⟨o',_,ho'⟩:=hr.hp.z1G h5
     have:=ho'.z0G h6
     omega
   rcases lO t z e1 with ⟨a1,rfl⟩|⟨a1,a2,a3⟩
   ·rcases lO t' z' e2 with ⟨b1,_⟩|⟨b1,b2,b3⟩
    ·rw [a1,b1]
    ·exact (new t' z' b1 b2 b3 e4 e3).elim
   ·rcases lO t' z' e2 with ⟨b1,rfl⟩|⟨b1,b2,b3⟩
    ·exact (new t z a1 a2 a3 e3 e4).elim
    ·exact hr.hp.apart t t' z z' b a3 b3 e3 e4
  ·rcases lO t z e1 with ⟨a1,rfl⟩|⟨a1,a2,a3⟩
   ·rcases hblk b e2 with e5|e5
    ·exact hr.hp.notL tag u b hu e5 hL
    ·have:=hr.hp.inL b hL;omega
   ·exact hr.hp.notL t z b a3 e2 hL
  ·rw [lN] at hz;cases hz;rfl
 ·rcases hb with hb|⟨k,z,h3,h4⟩
  ·exact hb.elim
  ·rcases lO k z h3 with ⟨_,rfl⟩|⟨_,_,h5⟩
   ·exact (hblk b h4).imp (fun h => .inr ⟨tag,u,hu,h⟩) (fun h=>by omega)
   ·exact .inl (.inr ⟨k,z,h5,h4⟩)
end
def allP {α:Type} : List α→(α→Prop)→Prop
 | [],_=>True
 | x :: r,f=>f x∧allP r f
theorem z6h {α:Type} : ∀ {l:List α} {f : α→Prop},allP l f → ∀ x ∈ l,f x
 | _ :: _,_,h,_,hx=>(List.mem_cons.1 hx).elim (fun e=>e ▸ h.1) (fun h'=>z6h h.2 _ h')
theorem WOv.val {P:Program} {ops:Array Oper} {o:Oper} {s:ASt} {K:ASt→Prop} (h:WOv P o s K) : ∃ av,zX P ops o s av∧K (s.put o.dst av):=by
 obtain ⟨dst,op,ty,pos,aft,gd⟩:=o
 unfold WOv at h
 simp only at h
 split at h
 ·obtain ⟨r,h1,h2⟩:=h
  exact ⟨r,h1.val rfl,h2⟩
 ·split at h
  ·rename_i f caps hf
   obtain ⟨r,h1,h4⟩:=h
   exact ⟨r,h1.val rfl hf,h4⟩
  ·exact h.elim
 ·split at h
  ·rename_i av hav;exact ⟨av,z3F hav,h⟩
  ·exact h.elim
def Chk (P:Program) (o:Oper) (s:ASt) (av:AV):Prop:=WOv P o s fun s'=>s' = s.put o.dst av
theorem Chk.val {P:Program} {ops:Array Oper} {o:Oper} {s:ASt} {av:AV} {d:Nat} (hd:o.dst=some d) (h:Chk P o s av):zX P ops o s av:=by
 obtain ⟨av',h1,h2⟩:=WOv.val (ops:=ops) h
 rw [hd] at h2
 have:av' = av:=by
  have:=congrArg ASt.fr h2
  simpa [ASt.put] using this
 exact this ▸ h1
theorem zX.agree {P:Program} {ops:Array Oper} {o:Oper} {s s' : ASt} {av:AV} (h:zX P ops o s av) (hh:s'.hp=s.hp) (hn:s'.n=s.n) (hN:s'.N=s.N) (hg : ∀ t ∈ o.looksAt ops,s'.get t=s.get t):zX P ops o s' av:=fun L loc a w hr=>by
 have:=h L loc a w ⟨hr.defers,hr.size.trans hn,fun t ht=>by have:=hr.fr t ht;rw [hg t ht,hN] at this;exact this,by have:=hr.hp;rw [hN,hh] at this;exact this⟩
 rw [hN];exact this
def GOK (P:Program) (ops:Array Oper) (o:Oper) (s:ASt) (av:AV):Prop:=match o.guard with
 | none=>zX P ops o s av
 | some (g,want)=>(∃ t b,(ops[g]?).bind (·.dst)=some t∧s.get t = .bool b∧(b=want→zX P ops o s av)∧(b ≠ want→av = .tup [])) ∨ ∃ t,(ops[g]?).bind (·.dst)=some t∧s.get t = .tup []∧av = .tup []
def WOw (P:Program) (o:Oper) (s:ASt) (K:ASt→Prop):Prop:=match o.op with
 | .store t x y=>match s.ev x with
  | .ptr tag off=>match s.hp.lookup tag with
   | some (.boxP pin ty cs)=>match z0q (s.ev y) with
    | some ys=>(tySz P t=some ys.length∧off+ys.length≤cs.length∧o.dst=none)∧K { s with hp:=zF s.hp tag (.boxP pin ty (qf cs off ys)) }
    | none=>False
   | _=>False
  | _=>False
 | .alloc ty=>match zK P ty with
  | some zs=>K ((s.add (.boxP none ty (zs.map fun v => .p (.val v)))).put o.dst (.ptr s.N 0))
  | none=>False
 | .box ty x=>match z0q (s.ev x) with
  | some cs=>K ((s.add (.boxP none ty cs)).put o.dst (.ptr s.N 0))
  | none=>False
 | .makeSlice t x y=>match s.ev x,s.ev y with
  | .p (.val (.int _ l)),.p (.val (.int _ l'))=>match zW P t with
   | some (e,n,bytes)=>match zK P e with
    | some zs=>(l=l' ∧ 0≤l∧l.toNat≤maxLen∧bytes*l.toNat≤140737488355328)∧K ((s.add (.row e n (List.replicate l.toNat (zs.map .val)))).put o.dst (.own s.N))
    | none=>False
   | none=>False
  | _,_=>False
 | .buildSlice t 0 ⟨[]⟩=>match zW P t with
  | some (e,n,_)=>K ((s.add (.row e n [])).put o.dst (.own s.N))
  | none=>False
 | .call { callee := .builtin .append,args:=⟨[x,y]⟩,argTypes:=⟨[ty,ty']⟩ }=>match s.ev x,s.ev y with
  | .own tag,.p (.seq n ys)=>match s.hp.lookup tag,zW P ty with
   | some (.row e m rows),some (e',m',bytes)=>(ty=ty' ∧ e=e' ∧ n=m∧m=m' ∧ rows.length+ys.length≤maxLen∧(rows.length+ys.length)*bytes≤140737488355328)∧K (ASt.put { s with hp:=(s.N,.row e m (rows++ys)) :: s.hp.filter (fun p=>p.1 != tag),N:=s.N+1 } o.dst (.own s.N))
   | _,_=>False
  | _,_=>False
 | _=>False
theorem z2m {ops:Array Oper} {o:Oper} {s s' : ASt} (hg : ∀ t ∈ o.looksAt ops,s'.get t=s.get t) {x:Operand} (hx:x ∈ o.op.operands.toList):s'.ev x=s.ev x:=by
 cases x with
 | tmp t=>exact hg t (List.mem_append.2 (.inl (List.mem_filterMap.2 ⟨_,hx,rfl⟩)))
 | _=>rfl
def WEff (P:Program) (ops:Array Oper) (o:Oper) (s:ASt) (h' : Hp × Nat) (av:AV):Prop := ∀ s' : ASt,s'.hp=s.hp→s'.n=s.n→s'.N=s.N→(∀ t ∈ o.looksAt ops,s'.get t=s.get t)→(∀ t,o.dst=some t→t<s'.n)→z1t P o s' (ASt.put { s' with hp:=h'.1,N:=h'.2 } o.dst av)
theorem WOw.eff {P:Program} {ops:Array Oper} {o:Oper} {s:ASt} {K:ASt→Prop} (h:WOw P o s K) : ∃ h' av,WEff P ops o s h' av∧K (ASt.put { s with hp:=h'.1,N:=h'.2 } o.dst av):=by
 obtain ⟨dst,op,ty,pos,aft,gd⟩:=o
 unfold WOw at h
 simp only at h
 split at h
 ·rename_i t x y
  split at h
  ·rename_i tag off hx
   split at h
   ·rename_i pin ty' cs hlk
    split at h
    ·rename_i ys hy
     obtain ⟨⟨h1,h2,h3⟩,h4⟩:=h
     subst h3
     refine ⟨(zF s.hp tag (.boxP pin ty' (qf cs off ys)),s.N),.zA,fun s' e1 e2 e3 e4 hd=>?_,h4⟩
     have ex:s'.ev x=s.ev x:=z2m e4 (by simp [Op.operands])
     have ey:s'.ev y=s.ev y:=z2m e4 (by simp [Op.operands])
     have:=z8S (P:=P) (o:=⟨none,.store t x y,ty,pos,aft,gd⟩) (s:=s') t x y tag off pin ty' cs ys rfl (by rw [ex,hx]) (by rw [e1,hlk]) (by rw [ey,hy]) h1 h2 rfl
     rw [e1] at this
     simp only [ASt.put,← e3]
     exact this
    ·exact h.elim
   ·exact h.elim
  ·exact h.elim
 ·rename_i ty'
  split at h
  ·rename_i zs hz
   refine ⟨((s.N,.boxP none ty' (zs.map fun v => .p (.val v))) :: s.hp,s.N+1),.ptr s.N 0,fun s' e1 e2 e3 e4 hd=>?_,h⟩
   have:=z97 (P:=P) (o:=⟨dst,.alloc ty',ty,pos,aft,gd⟩) (s:=s') ty' zs rfl hz hd
   simp only [ASt.add,e1,e3] at this
   exact this
  ·exact h.elim
 ·rename_i ty' x
  split at h
  ·rename_i cs hx
   refine ⟨((s.N,.boxP none ty' cs) :: s.hp,s.N+1),.ptr s.N 0,fun s' e1 e2 e3 e4 hd=>?_,h⟩
   have ex:s'.ev x=s.ev x:=z2m e4 (by simp [Op.operands])
   have:=op_box (P:=P) (o:=⟨dst,.box ty' x,ty,pos,aft,gd⟩) (s:=s') ty' x cs rfl (by rw [ex,hx]) hd
   simp only [ASt.add,e1,e3] at this
   exact this
  ·exact h.elim
 ·rename_i t x y
  split at h
  ·rename_i k l k' l' hx hy
   split at h
   ·rename_i e n bytes ht
    split at h
    ·rename_i zs hz
     obtain ⟨⟨rfl,h0,h1,h2⟩,h4⟩:=h
     obtain ⟨m,rfl⟩ : ∃ m:Nat,l=m:=⟨l.toNat,by omega⟩
     simp only [Int.toNat_natCast] at h1 h2 h4
     refine ⟨((s.N,.row e n (List.replicate m (zs.map .val))) :: s.hp,s.N+1),.own s.N,fun s' e1 e2 e3 e4 hd=>?_,h4⟩
     have ex:s'.ev x=s.ev x:=z2m e4 (by simp [Op.operands])
     have ey:s'.ev y=s.ev y:=z2m e4 (by simp [Op.operands])
     have:=z9w (P:=P) (o:=⟨dst,.makeSlice t x y,ty,pos,aft,gd⟩) (s:=s') t x y k k' e n bytes m zs rfl (by rw [ex,hx]) (by rw [ey,hy]) ht hz h1 h2 hd
     simp only [ASt.add,e1,e3] at this
     exact this
    ·exact h.elim
   ·exact h.elim
  ·exact h.elim
 ·rename_i t
  split at h
  ·rename_i e n bytes ht
   refine ⟨((s.N,.row e n []) :: s.hp,s.N+1),.own s.N,fun s' e1 e2 e3 e4 hd=>?_,h⟩
   have:=z5S (P:=P) (o:=⟨dst,.buildSlice t 0 ⟨[]⟩,ty,pos,aft,gd⟩) (s:=s') t e n bytes rfl ht hd
   simp only [ASt.add,e1,e3] at this
   exact this
  ·exact h.elim
 ·rename_i x y ty1 ty2
  split at h
  ·rename_i tag n ys hx hy
   split at h
   ·rename_i e m rows e' m' bytes hlk ht
    obtain ⟨⟨rfl,rfl,rfl,rfl,h1,h2⟩,h3⟩:=h
    refine ⟨((s.N,.row e n (rows++ys)) :: s.hp.filter (fun p=>p.1 != tag),s.N+1),.own s.N,fun s' e1 e2 e3 e4 hd=>?_,h3⟩
    have ex:s'.ev x=s.ev x:=z2m e4 (by simp [Op.operands,Call.operands])
    have ey:s'.ev y=s.ev y:=z2m e4 (by simp [Op.operands,Call.operands])
    have:=z9K (P:=P) (o:=⟨dst,.call { callee := .builtin .append,args:=⟨[x,y]⟩,argTypes:=⟨[ty1,ty1]⟩ },ty,pos,aft,gd⟩) (s:=s') x y ty1 tag e n bytes rows ys rfl (by rw [ex,hx]) (by rw [e1,hlk]) ht (by rw [ey,hy]) h1 h2 hd
    simp only [e1,e3] at this
    exact this
   ·exact h.elim
  ·exact h.elim
 ·exact h.elim
def dav (o:Oper) (s:ASt):AV:=match o.dst with
 | some d=>s.get d
 | none => .zA
abbrev Pend:=Oper × Nat × AV
def WCv (P:Program) (N:List Pend→ASt→Prop) (pend:List Pend) (prev:List (Hp × Nat)) (o:Oper) (lo hi:Nat) (s s' : ASt):Prop :=
 allP (prev.drop lo) (fun h=>Chk P o { s with hp:=h.1,N:=h.2 } (dav o s'))∧N (if prev.length<hi then (o,hi,dav o s') :: pend else pend) s'
def WC (P:Program) (ds:List (Option Nat)) (Q:ASt→Prop):List (Oper × Option (Nat × Nat))→List Pend→List (Hp × Nat)→ASt→Prop
 | [],_,_,s=>Q s
 | (o,some (lo,hi)) :: r,pend,prev,s=>match o.guard with
  | none=>WOv P o s fun s'=>WCv P (fun pd s'=>WC P ds Q r pd prev s') pend prev o lo hi s s'
  | some (g,want)=>match ds[g]? with
   | some (some t)=>match s.get t with
    | .p (.val (.bool b))=>WG b want (WOv P o (s.put (some t) (.bool want)) fun s'=>WCv P (fun pd s'=>WC P ds Q r pd prev s') pend prev o lo hi (s.put (some t) (.bool want)) s') (WC P ds Q r pend prev ((s.put (some t) (.bool (!want))).put o.dst (.tup [])))
    | .tup []=>WC P ds Q r pend prev (s.put o.dst (.tup []))
    | _=>False
   | _=>False
 | (o,none) :: r,pend,prev,s=>WOw P o s fun s'=>allP pend (fun p=>prev.length<p.2.1→Chk P p.1 { s with hp:=s'.hp,N:=s'.N } p.2.2)∧WC P ds Q r pend (prev ++ [(s.hp,s.N)]) s'
theorem GOK.agree {P:Program} {ops:Array Oper} {o:Oper} {s s' : ASt} {av:AV} (h:GOK P ops o s av) (hh:s'.hp=s.hp) (hn:s'.n=s.n) (hN:s'.N=s.N) (hg : ∀ t ∈ o.looksAt ops,s'.get t=s.get t):GOK P ops o s' av:=by
 unfold GOK at *
 split
 ·rename_i e;rw [e] at h;exact h.agree hh hn hN hg
 ·rename_i g want e
  rw [e] at h
  rcases h with ⟨t,b,h1,h2,h3,h4⟩|⟨t,h1,h2,h3⟩
  ·exact .inl ⟨t,b,h1,by rw [hg t (List.mem_append.2 (.inr (by simp [e,h1]))),h2],fun e=>(h3 e).agree hh hn hN hg,h4⟩
  ·exact .inr ⟨t,h1,by rw [hg t (List.mem_append.2 (.inr (by simp [e,h1]))),h2],h3⟩
theorem WEff.agree {P:Program} {ops:Array Oper} {o:Oper} {s s' : ASt} {h' : Hp × Nat} {av av' : AV} (h:WEff P ops o s h' av) (hh:s'.hp=s.hp) (hn:s'.n=s.n) (hN:s'.N=s.N) (hg : ∀ t ∈ o.looksAt ops,s'.get t=s.get t) (hav : ∀ d,o.dst=some d→av' = av):WEff P ops o s' h' av':=fun s2 e1 e2 e3 e4 hd=>by
 have:=h s2 (e1.trans hh) (e2.trans hn) (e3.trans hN) (fun t ht=>(e4 t ht).trans (hg t ht)) hd
 cases hd' : o.dst with
 | none=>rw [hd'] at this;exact this
 | some d=>rw [hd',← hav d hd'] at this;exact this
abbrev El:=List (Oper × Option (Nat × Nat))
def wct (el:El):Nat:=el.countP fun e=>e.2.isNone
structure Out (P:Program) (ops:Array Oper) (el:El) (pend:List Pend) (prev:List (Hp × Nat)) (s fin:ASt) (hps:List (Hp × Nat)):Prop where
 n:fin.n=s.n
 mem : ∃ tl,hps=prev++(s.hp,s.N) :: tl∧tl.length=wct el
 last:hps.getLast? = some (fin.hp,fin.N)
 out : ∀ t,(∀ e ∈ el,e.1.dst ≠ some t)→fin.get t=s.get t
 pnd : ∀ p ∈ pend,∀ (j:Nat) (h:Hp × Nat),prev.length<j→j≤p.2.1→hps[j]? = some h→zX P ops p.1 ⟨fin.fr,h.1,fin.n,h.2⟩ p.2.2
 val : ∀ (i:Nat) o lo hi,el[i]? = some (o,some (lo,hi)) → ∀ d,o.dst=some d → ∀ (j:Nat) (h:Hp × Nat),lo≤j→j≤hi→hps[j]? = some h→GOK P ops o ⟨fin.fr,h.1,fin.n,h.2⟩ (fin.get d)
 wr : ∀ (i:Nat) o,el[i]? = some (o,none) → ∃ h h' : Hp × Nat,hps[prev.length+wct (el.take i)]? = some h∧hps[prev.length+wct (el.take i)+1]? = some h' ∧ WEff P ops o ⟨fin.fr,h.1,fin.n,h.2⟩ h' (dav o fin)
theorem Out.z6V {P:Program} {ops:Array Oper} {r:El} {pend pend' : List Pend} {prev hps:List (Hp × Nat)} {s s' fin:ASt} {o:Oper} {lo hi d:Nat} {av:AV} (ho:Out P ops r pend' prev s' fin hps) (hd:o.dst=some d) (h1:s'.hp=s.hp) (h2:s'.n=s.n) (h3:s'.N=s.N)
  (hg : ∀ t,s'.get t=if t=d then av else s.get t) (hsub : ∀ p ∈ pend,p ∈ pend') (uniq : ∀ e ∈ r,e.1.dst ≠ some d) (hv : ∀ (j:Nat) (h:Hp × Nat),lo≤j→j≤hi→hps[j]? = some h→GOK P ops o ⟨fin.fr,h.1,fin.n,h.2⟩ av):Out P ops ((o,some (lo,hi)) :: r) pend prev s fin hps:=by
 have hfd:fin.get d=av:=by rw [ho.out d uniq,hg,if_pos rfl]
 refine ⟨ho.n.trans h2,?_,ho.last,fun t ht=>?_,fun p hp=>ho.pnd p (hsub p hp),fun i o' lo' hi' hi2 d' hd' j h hl hh hj=>?_,fun i o' hi2=>?_⟩
 ·obtain ⟨tl,e1,e2⟩:=ho.mem
  exact ⟨tl,by rw [e1,h1,h3],by rw [e2];simp [wct,List.countP_cons]⟩
 ·rw [ho.out t (fun e he=>ht e (List.mem_cons.2 (.inr he))),hg,if_neg]
  exact fun e=>ht _ (List.mem_cons.2 (.inl rfl)) (by rw [hd,e])
 ·cases i with
  | zero =>
   cases hi2
   rw [hd] at hd';cases hd'
   rw [hfd];exact hv j h hl hh hj
  | succ i=>exact ho.val i o' lo' hi' hi2 d' hd' j h hl hh hj
 ·cases i with
  | zero=>cases hi2
  | succ i =>
   have:=ho.wr i o' hi2
   simpa [wct,List.countP_cons] using this
structure Fit (ops:Array Oper) (el:El):Prop where
 late : ∀ (i j:Nat) a b,el[i]? = some a→el[j]? = some b→i≤j → ∀ t ∈ a.1.looksAt ops,b.1.dst ≠ some t
 uniq : ∀ (i j:Nat) a b d,el[i]? = some a→el[j]? = some b→i<j→a.1.dst=some d→b.1.dst ≠ some d
 dst : ∀ a ∈ el,a.2.isSome=true → ∃ d,a.1.dst=some d
theorem Fit.tail {ops:Array Oper} {a:Oper × Option (Nat × Nat)} {r:El} (h:Fit ops (a :: r)):Fit ops r :=
 ⟨fun i j x y hx hy hij=>h.late (i+1) (j+1) x y hx hy (by omega),fun i j x y d hx hy hij=>h.uniq (i+1) (j+1) x y d hx hy (by omega),fun x hx=>h.dst x (List.mem_cons.2 (.inr hx))⟩
theorem Fit.head {ops:Array Oper} {a:Oper × Option (Nat × Nat)} {r:El} (h:Fit ops (a :: r)):(∀ t ∈ a.1.looksAt ops,a.1.dst ≠ some t ∧ ∀ e ∈ r,e.1.dst ≠ some t) ∧ ∀ d,a.1.dst=some d → ∀ e ∈ r,e.1.dst ≠ some d :=
 ⟨fun t ht=>⟨h.late 0 0 a a rfl rfl (Nat.le_refl _) t ht,fun e he=>by
  obtain ⟨j,hj⟩:=List.mem_iff_getElem?.1 he
  exact h.late 0 (j+1) a e rfl hj (Nat.zero_le _) t ht⟩,fun d hd e he=>by
  obtain ⟨j,hj⟩:=List.mem_iff_getElem?.1 he
  exact h.uniq 0 (j+1) a e d rfl hj (by omega) hd⟩
theorem WC.out {P:Program} {ops:Array Oper} {Q:ASt→Prop} : ∀ (el:El) (pend:List Pend) (prev:List (Hp × Nat)) (s:ASt),Fit ops el→WC P (ops.toList.map (·.dst)) Q el pend prev s→(∀ p ∈ pend,(∃ d,p.1.dst=some d) ∧ ∀ t ∈ p.1.looksAt ops,∀ e ∈ el,e.1.dst ≠ some t) →
  (∀ a ∈ el,a.2=none→a.1.guard=none) → ∃ fin hps,Q fin∧Out P ops el pend prev s fin hps
 | [],pend,prev,s,hf,h,hp,hgd=>⟨s,prev ++ [(s.hp,s.N)],h,rfl,⟨[],rfl,rfl⟩,by simp,fun _ _=>rfl,fun p _ j h hj _ he=>by
   have:=(List.getElem?_eq_some_iff.1 he).1
   simp at this;omega,fun i o lo hi hi2=>(by cases hi2),fun i o hi2=>(by cases hi2)⟩
 | (o,some (lo,hi)) :: r,pend,prev,s,hf,h,hp,hgd=>by
  obtain ⟨d,hd⟩ : ∃ d,o.dst=some d:=hf.dst _ (List.mem_cons.2 (.inl rfl)) rfl
  obtain ⟨hlate,huniq⟩:=hf.head
  have hr:=hf.tail
  have hgd' : ∀ a ∈ r,a.2=none→a.1.guard=none:=fun a ha=>hgd a (List.mem_cons.2 (.inr ha))
  have hpr : ∀ p ∈ pend,(∃ d,p.1.dst=some d) ∧ ∀ t ∈ p.1.looksAt ops,∀ e ∈ r,e.1.dst ≠ some t:=fun p hp'=>⟨(hp p hp').1,fun t ht e he=>(hp p hp').2 t ht e (List.mem_cons.2 (.inr he))⟩
  -- the walk's word,for a state that says what s says
  have key : ∀ (s1:ASt),Sq s s1→(∀ s2:ASt,∀ av,(∀ t ∈ o.looksAt ops,s2.get t=s1.get t)→zX P ops o s2 av→GOK P ops o s2 av) →
    (WOv P o s1 fun s'=>WCv P (fun pd s'=>WC P (ops.toList.map (·.dst)) Q r pd prev s') pend prev o lo hi s1 s') → ∃ fin hps,Q fin∧Out P ops ((o,some (lo,hi)) :: r) pend prev s fin hps:=by
   intro s1 hsq hgk hw
   obtain ⟨av,hov,hcv,hwc⟩:=WOv.val (ops:=ops) hw
   have hdav:dav o (s1.put o.dst av)=av:=by simp only [dav,hd];rw [ASt.get_put,if_pos rfl]
   rw [hdav] at hcv hwc
   rw [hd] at hwc
   have hsub : ∀ p ∈ pend,p ∈ (if prev.length<hi then (o,hi,av) :: pend else pend):=fun p hp'=>by
    split
    ·exact List.mem_cons.2 (.inr hp')
    ·exact hp'
   obtain ⟨fin,hps,hq,ho⟩:=WC.out r _ prev _ hr hwc (fun p hp'=>by
    split at hp'
    ·rcases List.mem_cons.1 hp' with rfl|hp'
     ·exact ⟨⟨d,hd⟩,fun t ht=>(hlate t ht).2⟩
     ·exact hpr p hp'
    ·exact hpr p hp') hgd'
   have hlook : ∀ t ∈ o.looksAt ops,fin.get t=s1.get t:=fun t ht=>by
    rw [ho.out t (hlate t ht).2,ASt.get_put,if_neg]
    exact fun e=>(hlate t ht).1 (by rw [hd,e])
   refine ⟨fin,hps,hq,ho.z6V hd hsq.hp hsq.n hsq.N (av:=av) (fun t=>?_) hsub (huniq d hd) (fun j h hl hh hj=>?_)⟩
   ·rw [ASt.get_put]
    split
    ·rfl
    ·exact hsq.get t
   ·refine hgk _ _ hlook ?_
    by_cases h1:j<prev.length
    ·obtain ⟨tl,e1,_⟩:=ho.mem
     rw [e1,List.getElem?_append_left h1] at hj
     have hm:h ∈ prev.drop lo:=List.mem_iff_getElem?.2 ⟨j-lo,by rw [List.getElem?_drop,show lo+(j-lo)=j by omega];exact hj⟩
     exact ((z6h hcv h hm).val hd).agree rfl ho.n rfl hlook
    ·by_cases h2:j=prev.length
     ·subst h2
      obtain ⟨tl,e1,_⟩:=ho.mem
      rw [e1,List.getElem?_append_right (Nat.le_refl _),Nat.sub_self] at hj
      cases hj
      exact hov.agree rfl ho.n rfl hlook
     ·exact ho.pnd (o,hi,av) (by rw [if_pos (by omega)];exact List.mem_cons.2 (.inl rfl)) j h (by omega) hh hj
  unfold WC at h
  cases hg:o.guard with
  | none =>
   rw [hg] at h
   exact key s (Sq.refl s) (fun s2 av _ h=>by unfold GOK;rw [hg];exact h) h
  | some gw =>
   obtain ⟨g,want⟩:=gw
   rw [hg] at h
   simp only at h
   split at h
   ·rename_i t ht
    have ht' : (ops[g]?).bind (·.dst)=some t:=by
     simp only [List.getElem?_map,Option.map_eq_some_iff,Array.getElem?_toList] at ht
     obtain ⟨o',h1,h2⟩:=ht
     rw [h1];exact h2
    have htl:t ∈ o.looksAt ops:=List.mem_append.2 (.inr (by simp [hg,ht']))
    split at h
    ·rename_i b hb
     by_cases hbw:b=want
     ·have hsq:=Sq.same (s:=s) (t:=t) (x := .bool want) (by rw [hb,hbw])
      refine key _ hsq (fun s2 av hl ho=>?_) (h.1 hbw)
      unfold GOK;rw [hg]
      exact .inl ⟨t,want,ht',by rw [hl t htl,hsq.get,hb,hbw],fun _=>ho,fun e=>absurd rfl e⟩
     ·have hbn:b=(!want):=by cases b <;> cases want <;> simp_all
      have hsq:=Sq.same (s:=s) (t:=t) (x := .bool (!want)) (by rw [hb,hbn])
      have hwc:=h.2 hbn
      rw [hd] at hwc
      obtain ⟨fin,hps,hq,ho⟩:=WC.out r pend prev _ hr hwc hpr hgd'
      have hlook : ∀ t ∈ o.looksAt ops,fin.get t=s.get t:=fun t ht=>by
       rw [ho.out t (hlate t ht).2,ASt.get_put,if_neg (fun e=>(hlate t ht).1 (by rw [hd,e])),hsq.get]
      refine ⟨fin,hps,hq,ho.z6V hd hsq.hp hsq.n hsq.N (av := .tup []) (fun k=>?_) (fun _ h=>h) (huniq d hd) (fun j h hl hh hj=>?_)⟩
      ·rw [ASt.get_put]
       split
       ·rfl
       ·exact hsq.get k
      ·unfold GOK;rw [hg]
       exact .inl ⟨t,b,ht',by show fin.get t=_;rw [hlook t htl,hb],fun e=>absurd e hbw,fun _=>rfl⟩
    ·rename_i hb
     have hwc:=h
     rw [hd] at hwc
     obtain ⟨fin,hps,hq,ho⟩:=WC.out r pend prev _ hr hwc hpr hgd'
     have hlook : ∀ t ∈ o.looksAt ops,fin.get t=s.get t:=fun t ht=>by
      rw [ho.out t (hlate t ht).2,ASt.get_put,if_neg (fun e=>(hlate t ht).1 (by rw [hd,e]))]
     refine ⟨fin,hps,hq,ho.z6V hd rfl rfl rfl (av := .tup []) (fun k=>?_) (fun _ h=>h) (huniq d hd) (fun j h hl hh hj=>?_)⟩
     ·rw [ASt.get_put]
     ·unfold GOK;rw [hg]
      exact .inr ⟨t,ht',by show fin.get t=_;rw [hlook t htl,hb],rfl⟩
    ·exact h.elim
   ·exact h.elim
 | (o,none) :: r,pend,prev,s,hf,h,hp,hgd=>by
  obtain ⟨hlate,huniq⟩:=hf.head
  have hr:=hf.tail
  unfold WC at h
  obtain ⟨h',av,heff,hpd,hwc⟩:=WOw.eff (ops:=ops) h
  obtain ⟨fin,hps,hq,ho⟩:=WC.out r pend (prev ++ [(s.hp,s.N)]) _ hr hwc (fun p hp'=>⟨(hp p hp').1,fun t ht e he=>(hp p hp').2 t ht e (List.mem_cons.2 (.inr he))⟩) (fun a ha=>hgd a (List.mem_cons.2 (.inr ha)))
  have hput : ∀ (s:ASt) (d:Option Nat) (x:AV),(s.put d x).hp=s.hp∧(s.put d x).n=s.n∧(s.put d x).N=s.N:=fun s d x=>by cases d <;> exact ⟨rfl,rfl,rfl⟩
  have hput2 : ∀ (s:ASt) (t:Nat),o.dst ≠ some t→(s.put o.dst av).get t=s.get t:=fun s t ht=>by
   cases hd:o.dst with
   | none=>rfl
   | some d=>rw [ASt.get_put,if_neg (fun e=>ht (by rw [hd,e]))]
  obtain ⟨tl,e1,e2⟩:=ho.mem
  rw [(hput _ _ _).1,(hput _ _ _).2.2] at e1
  have hn:fin.n=s.n:=ho.n.trans (hput _ _ _).2.1
  have hlook : ∀ t,(o.dst ≠ some t ∧ ∀ e ∈ r,e.1.dst ≠ some t)→fin.get t=s.get t:=fun t ht=>by
   rw [ho.out t ht.2,hput2 _ t ht.1];rfl
  have e1' : hps=prev++(s.hp,s.N) :: (h'.1,h'.2) :: tl:=by rw [e1];simp
  refine ⟨fin,hps,hq,hn,⟨_,e1',by simp [e2,wct,List.countP_cons]⟩,ho.last,fun t ht=>hlook t ⟨ht _ (List.mem_cons.2 (.inl rfl)),fun e he=>ht e (List.mem_cons.2 (.inr he))⟩,fun p hp' j h hj hh hjs=>?_,fun i o' lo hi hi2=>?_,fun i o' hi2=>?_⟩
  ·by_cases h2:j=prev.length+1
   ·subst h2
    rw [e1',List.getElem?_append_right (by omega),show prev.length+1-prev.length=1 by omega] at hjs
    cases hjs
    obtain ⟨⟨d,hd⟩,hl⟩:=hp p hp'
    have hc:=(z6h hpd p hp' (by omega)).val (ops:=ops) hd
    refine hc.agree ?_ hn ?_ (fun t ht=>hlook t ⟨hl t ht _ (List.mem_cons.2 (.inl rfl)),fun e he=>hl t ht e (List.mem_cons.2 (.inr he))⟩)
    ·exact (hput { s with hp:=h'.1,N:=h'.2 } o.dst av).1.symm
    ·exact (hput { s with hp:=h'.1,N:=h'.2 } o.dst av).2.2.symm
   ·exact ho.pnd p hp' j h (by simp;omega) hh hjs
  ·cases i with
   | zero=>cases hi2
   | succ i=>exact ho.val i o' lo hi hi2
  ·cases i with
   | zero =>
    cases hi2
    refine ⟨(s.hp,s.N),h',by rw [e1'];simp [wct],by rw [e1'];simp [wct],heff.agree rfl hn rfl (fun t ht=>hlook t (hlate t ht)) (fun d hd=>?_)⟩
    simp only [dav,hd]
    rw [ho.out d (huniq d hd),hd,ASt.get_put,if_pos rfl]
   | succ i =>
    have:=ho.wr i o' hi2
    simpa [wct,List.countP_cons,Nat.add_assoc,Nat.add_comm,Nat.add_left_comm] using this
abbrev Fl:=List (Option (Nat × Nat))
def z2t (ops:Array Oper) (i j:Nat):Bool:=match ops[i]? with
 | some o=>o.after.any (fun e=>Region.binds .any e&&e.on==j)
 | none=>false
def rkf (fl:Fl) (i:Nat):Nat:=(fl.take i).countP (·.isNone)
def wrB (fl:Fl) (i:Nat):Bool:=match fl[i]? with
 | some none=>true
 | _=>false
def z8L (l:Array Oper) (i k:Nat):Bool:=z2t l i k||(List.range l.size).any fun j=>z2t l i j&&z2t l j k
def z3c (l:List Oper) (fl:Fl) (size i:Nat) (o:Oper) (f:Option (Nat × Nat)):Bool :=
 (match o.dst with|some d=>decide (d<size)|none=>f.isNone) &&
 (o.after.all (fun e => !Region.binds .any e||decide (e.on<i)) &&
 ((o.looksAt l.toArray).all (fun t=>decide (t<size)&&(List.range l.length).all fun j=>((l[j]?).bind (·.dst)) != some t||z2t l.toArray i j) &&
 ((List.range l.length).all (fun j=>i==j||o.dst.isNone||((l[j]?).bind (·.dst)) != o.dst) &&
 (match f with
  | some (lo,hi)=>(decide (lo=0)||(List.range l.length).any fun k=>wrB fl k&&(rkf fl k+1==lo&&z2t l.toArray i k))&&(decide (rkf fl fl.length≤hi)||(List.range l.length).any fun k=>wrB fl k&&(rkf fl k==hi&&z2t l.toArray k i))
  | none=>o.guard.isNone&&(decide (rkf fl i=0)||(List.range l.length).any fun k=>wrB fl k&&(rkf fl k+1==rkf fl i&&z8L l.toArray i k))))))
def z9R (l:List Oper) (fl:Fl) (size:Nat):Bool :=
 decide (fl.length=l.length)&&((decide (rkf fl fl.length=0)||(List.range fl.length).any fun i=>wrB fl i&&rkf fl i+1==rkf fl fl.length) &&
 (List.range l.length).all fun i=>match l[i]?,fl[i]? with
  | some o,some f=>z3c l fl size i o f
  | _,_=>false)
theorem z1V {ops:Array Oper} {i j:Nat} (h:z2t ops i j=true) : ∃ o e,ops[i]? = some o∧e ∈ o.after∧Region.binds .any e=true∧e.on=j:=by
 unfold z2t at h
 split at h
 ·rename_i o ho
  obtain ⟨k,hk,he⟩:=Array.any_eq_true.1 h
  simp only [Bool.and_eq_true,beq_iff_eq] at he
  exact ⟨o,_,ho,Array.getElem_mem hk,he.1,he.2⟩
 ·cases h
theorem z1u {fl:Fl} {i:Nat} (h:wrB fl i=true):fl[i]? = some none:=by
 unfold wrB at h
 split at h
 ·assumption
 ·cases h
theorem z1v {l:List Oper} {fl:Fl} {size i:Nat} {o:Oper} (h:z9R l fl size=true) (ho:l[i]? = some o) : ∃ f,fl[i]? = some f∧z3c l fl size i o f=true:=by
 simp only [z9R,Bool.and_eq_true,List.all_eq_true,List.mem_range] at h
 have:=h.2.2 i (List.getElem?_eq_some_iff.1 ho).1
 rw [ho] at this
 cases hf:fl[i]? with
 | none=>simp [hf] at this
 | some f=>simp [hf] at this;exact ⟨f,rfl,this⟩
theorem z7a {fl:Fl} {i:Nat} (h:fl[i]? = some none):rkf fl (i+1)=rkf fl i+1:=by
 unfold rkf
 rw [List.take_add_one,h,List.countP_append];simp
theorem z6D (fl:Fl) {i j:Nat} (h:i≤j):rkf fl i≤rkf fl j:=by
 unfold rkf
 exact List.Sublist.countP_le (List.take_sublist_take_left h)
theorem rkf_inj {fl:Fl} {i j:Nat} (hi:fl[i]? = some none) (hj:fl[j]? = some none) (h:rkf fl i=rkf fl j):i=j:=by
 rcases Nat.lt_trichotomy i j with h1|h1|h1
 ·have:=z6D fl (show i+1≤j from h1);rw [z7a hi] at this;omega
 ·exact h1
 ·have:=z6D fl (show j+1≤i from h1);rw [z7a hj] at this;omega
theorem rkf_lt {fl:Fl} {i:Nat} (hi:fl[i]? = some none):rkf fl i<rkf fl fl.length:=by
 have:=z6D fl (show i+1≤fl.length from (List.getElem?_eq_some_iff.1 hi).1)
 rw [z7a hi] at this;omega
theorem z4T : ∀ {l:List Oper} {fl:Fl} (i:Nat),fl.length=l.length→wct ((l.zip fl).take i)=rkf fl i
 | [],[],i,_=>by simp [wct,rkf]
 | [],_ :: _,i,h=>by simp at h
 | _ :: _,[],i,h=>by simp at h
 | o :: l,f :: fl,0,h=>by simp [wct,rkf]
 | o :: l,f :: fl,i+1,h=>by
  have:=z4T (l:=l) (fl:=fl) i (by simpa using h)
  simp only [wct,rkf] at this ⊢
  simp [List.countP_cons,this]
theorem z1E {l:List Oper} {fl:Fl} {i:Nat} {o:Oper} {f:Option (Nat × Nat)} (h:(l.zip fl)[i]? = some (o,f)):l[i]? = some o∧fl[i]? = some f:=by
 rw [List.getElem?_zip_eq_some] at h;exact h
theorem fit_of {l:List Oper} {fl:Fl} {size:Nat} (h:z9R l fl size=true):Fit l.toArray (l.zip fl):=by
 refine ⟨fun i j a b ha hb hij t ht e=>?_,fun i j a b d ha hb hij hd e=>?_,fun a ha hs=>?_⟩
 ·obtain ⟨o,f⟩:=a
  obtain ⟨o',f'⟩:=b
  obtain ⟨h1,h2⟩:=z1E ha
  obtain ⟨h3,h4⟩:=z1E hb
  obtain ⟨f2,hf2,hc⟩:=z1v h h1
  simp only [z3c,Bool.and_eq_true,List.all_eq_true,List.mem_range] at hc
  have:=(hc.2.2.1 t ht).2 j (List.getElem?_eq_some_iff.1 h3).1
  simp only [Bool.or_eq_true,h3] at this
  rcases this with h5|h5
  ·simp at h5;exact h5 e
  ·obtain ⟨o2,ed,e1,e2,e3,e4⟩:=z1V h5
   have e1' : l[i]? = some o2:=by simpa using e1
   rw [h1] at e1';cases e1'
   have:=Array.all_eq_true_iff_forall_mem.1 hc.2.1 ed e2
   simp only [e3,Bool.not_true,Bool.false_or,decide_eq_true_eq] at this
   omega
 ·obtain ⟨o,f⟩:=a
  obtain ⟨o',f'⟩:=b
  obtain ⟨h1,h2⟩:=z1E ha
  obtain ⟨h3,h4⟩:=z1E hb
  obtain ⟨f2,hf2,hc⟩:=z1v h h1
  simp only [z3c,Bool.and_eq_true,List.all_eq_true,List.mem_range] at hc
  have:=hc.2.2.2.1 j (List.getElem?_eq_some_iff.1 h3).1
  simp only at hd e
  simp [h3,hd,e] at this
  omega
 ·obtain ⟨i,hi⟩:=List.mem_iff_getElem?.1 ha
  obtain ⟨o,f⟩:=a
  obtain ⟨h1,h2⟩:=z1E hi
  obtain ⟨f2,hf2,hc⟩:=z1v h h1
  rw [h2] at hf2;cases hf2
  simp only [z3c,Bool.and_eq_true] at hc
  have h3:=hc.1
  split at h3
  ·rename_i d hd;exact ⟨d,hd⟩
  ·cases f with
   | none=>cases hs
   | some f=>cases h3
def known (l:List Oper) (listed:Array Bool) (t:Nat):Bool:=(List.range l.length).all fun i=>((l[i]?).bind (·.dst)) != some t||listed.getD i false
def frL (n:Nat) (g:Nat→AV):List (Nat × AV):=(List.range n).map fun t=>(t,g t)
theorem za1 (n:Nat) (g:Nat→AV) (t:Nat):(frL n g).lookup t=if t<n then some (g t) else none:=by
 have : ∀ l:List Nat,(l.map fun t=>(t,g t)).lookup t=if t ∈ l then some (g t) else none:=by
  intro l
  induction l with
  | nil=>rfl
  | cons k r ih =>
   by_cases e:t=k
   ·subst e;simp
   ·rw [List.map_cons,ze e,ih];simp [e]
 rw [frL,this];simp
theorem z9T {α:Type} (l r:List (Nat × α)) (t:Nat):(l++r).lookup t=(l.lookup t).or (r.lookup t):=by
 induction l with
 | nil=>rfl
 | cons p l ih =>
  obtain ⟨k,x⟩:=p
  by_cases e:t=k
  ·subst e;rw [List.cons_append,zi,zi];rfl
  ·rw [List.cons_append,ze e,ze e,ih]
def midS (l:List Oper) (fin:ASt) (listed:Array Bool) (h:Hp × Nat):ASt:=⟨frL fin.n (fun t=>if known l listed t=true then fin.get t else .zA)++fin.fr,h.1,fin.n,h.2⟩
theorem z0W (l:List Oper) (fin:ASt) (listed:Array Bool) (h:Hp × Nat) (t:Nat):(midS l fin listed h).get t=if t<fin.n∧known l listed t=false then .zA else fin.get t:=by
 show ((frL _ _++fin.fr).lookup t).getD .zA=_
 rw [z9T,za1]
 by_cases h1:t<fin.n
 ·by_cases h2:known l listed t=true <;> simp [h1,h2]
 ·simp [h1];rfl
theorem z7b {l:List Oper} {listed:Array Bool} {i t:Nat} {o:Oper} (ho:l[i]? = some o) (hi:i<listed.size) (h:known l (listed.setIfInBounds i true) t=true) (hd:o.dst ≠ some t):known l listed t=true:=by
 simp only [known,List.all_eq_true,List.mem_range,Bool.or_eq_true] at h ⊢
 intro j hj
 rcases h j hj with h1|h1
 ·exact .inl h1
 ·by_cases e:i=j
  ·subst e;left;simpa [ho] using hd
  ·rw [getD_set_ne false e] at h1;exact .inr h1
theorem T.comm {F:Fence} [FOk F] {P:Program} {Q:Exit→ASt→Prop} {s:ASt} {id:Nat} {l:List Oper} (fl:Fl) (hm:P.follows .mixedOrders=true) (hB:(z2r l&&z9R l fl s.n)=true) (h : ∀ K:ASt→Prop,(∀ s,Q .normal s→K s)→WC P (l.map (·.dst)) K (l.zip fl) [] [] s):T F P (.region id l.toArray true) Q s:=fun L loc a w hr=>by
 obtain ⟨hnd,hB⟩:=Bool.and_eq_true_iff.1 hB
 refine wpIn_mono (wpIn_region_any hm (z5s NQ.out (z0M hnd) _ _ _ _ ?_)) fun _ _ _ k=>NQ.post k
 change wpAny P .any l.toArray (z10 L loc w (NQ Q)) _ _ a w.drew
 have hfit:=fit_of hB
 have hlen:fl.length=l.length:=by simp only [z9R,Bool.and_eq_true,decide_eq_true_eq] at hB;exact hB.1
 have hsz:l.toArray.size=l.length:=by simp
 have hgd : ∀ x ∈ l.zip fl,x.2=none→x.1.guard=none:=fun x hx hn=>by
  obtain ⟨i,hi⟩:=List.mem_iff_getElem?.1 hx
  obtain ⟨o,f⟩:=x
  obtain ⟨h1,h2⟩:=z1E hi
  obtain ⟨f2,hf2,hc⟩:=z1v hB h1
  rw [h2] at hf2;cases hf2
  simp only at hn;subst hn
  simp only [z3c,Bool.and_eq_true] at hc
  simpa using hc.2.2.2.2.1
 obtain ⟨fin,hps,hq,ho⟩:=WC.out (ops:=l.toArray) (l.zip fl) [] [] s hfit (by simpa using h _ fun _ h=>h) (fun p hp=>(by cases hp)) hgd
 obtain ⟨tl,hmem,htl⟩:=ho.mem
 simp only [List.nil_append] at hmem
 have hm' : wct (l.zip fl)=rkf fl fl.length:=by
  have:=z4T (l:=l) (fl:=fl) fl.length hlen
  rw [List.take_of_length_le (by simp;omega)] at this
  exact this
 have hpl:hps.length=rkf fl fl.length+1:=by rw [hmem];simp [htl,hm']
 have hn:fin.n=s.n:=ho.n
 -- what a ready operation knows
 have ready : ∀ {listed:Array Bool} {i k:Nat},i ∈ Region.ready .any l.toArray listed→z2t l.toArray i k=true→listed.getD k false=true:=by
  intro listed i k hi he
  obtain ⟨o,e,h1,h2,h3,h4⟩:=z1V he
  obtain ⟨_,o',ho',hall⟩:=mem_ready.1 hi
  rw [h1] at ho';cases ho'
  rw [← h4];exact hall e h2 h3
 let I:Array Bool→Act→World→Prop:=fun listed a' w' => ∃ (j:Nat) (hj:Hp × Nat) (loc' : Nat→Option Value),listed.size=l.length∧(∀ i k,listed.getD i false=true→z2t l.toArray i k=true→listed.getD k false=true)∧j≤rkf fl fl.length ∧
  (∀ i,fl[i]? = some none→(listed.getD i false=true↔rkf fl i<j))∧hps[j]? = some hj∧Rel All L (midS l fin listed hj) loc' a' w' ∧ Ext loc w loc' w'
 have looks : ∀ {listed:Array Bool} {i:Nat} {o:Oper} {hj:Hp × Nat},l[i]? = some o→i ∈ Region.ready .any l.toArray listed → ∀ t ∈ o.looksAt l.toArray,(midS l fin listed hj).get t=fin.get t:=by
  intro listed i o hj hio hi t ht
  obtain ⟨f,hf,hc⟩:=z1v hB hio
  simp only [z3c,Bool.and_eq_true,List.all_eq_true,List.mem_range] at hc
  obtain ⟨h1,h2⟩:=hc.2.2.1 t ht
  have hk:known l listed t=true:=by
   simp only [known,List.all_eq_true,List.mem_range,Bool.or_eq_true]
   intro k hk
   have:=h2 k hk
   simp only [Bool.or_eq_true] at this
   exact this.imp (fun h=>h) (fun he=>ready hi he)
  rw [z0W,if_neg (by rw [hk];simp)]
 have dsts : ∀ {i:Nat} {o:Oper} {d:Nat},l[i]? = some o→o.dst=some d→d<s.n:=by
  intro i o d hio hd
  obtain ⟨f,hf,hc⟩:=z1v hB hio
  simp only [z3c,Bool.and_eq_true] at hc
  have:=hc.1
  rw [hd] at this
  simpa using this
 -- listed goes on being closed
 have closed : ∀ {listed:Array Bool} {i:Nat},listed.size=l.length→i<l.length→(∀ i k,listed.getD i false=true→z2t l.toArray i k=true→listed.getD k false=true)→i ∈ Region.ready .any l.toArray listed → ∀ x k,(listed.setIfInBounds i true).getD x false=true→z2t l.toArray x k=true→(listed.setIfInBounds i true).getD k false=true:=by
  intro listed i hs hi hc hrd x k hx he
  by_cases e:i=x
  ·subst e;exact getD_set_true (ready hrd he)
  ·rw [getD_set_ne false e] at hx;exact getD_set_true (hc x k hx he)
 -- the frame after an operation
 have frame : ∀ {listed:Array Bool} {i:Nat} {o:Oper} {hj:Hp × Nat} {av:AV},l[i]? = some o→i<listed.size→av=dav o fin → ∀ t,(midS l fin (listed.setIfInBounds i true) hj).get t = .zA∨(midS l fin (listed.setIfInBounds i true) hj).get t=((midS l fin listed hj).put o.dst av).get t:=by
  intro listed i o hj av hio hi hav t
  rw [z0W]
  split
  ·left;rfl
  ·rename_i hk
   right
   have old:o.dst ≠ some t→(midS l fin listed hj).get t=fin.get t:=fun hd=>by
    rw [z0W,if_neg]
    rintro ⟨h1,h2⟩
    refine hk ⟨h1,?_⟩
    cases h3:known l (listed.setIfInBounds i true) t with
    | false=>rfl
    | true=>rw [z7b hio hi h3 hd] at h2;cases h2
   cases hd:o.dst with
   | none=>exact (old (by rw [hd];intro e;cases e)).symm
   | some d =>
    rw [ASt.get_put]
    split
    ·rename_i e;rw [e,hav];simp [dav,hd]
    ·rename_i e
     exact (old (by rw [hd];intro e';cases e';exact e rfl)).symm
 have toMid : ∀ {listed:Array Bool} {i:Nat} {o:Oper} {hj:Hp × Nat} {av:AV} {loc' : Nat→Option Value} {a' : Act} {w' : World},l[i]? = some o→i<listed.size→av=dav o fin→Rel All L ((midS l fin listed hj).put o.dst av) loc' a' w' → Rel All L (midS l fin (listed.setIfInBounds i true) hj) loc' a' w':=by
  intro listed i o hj av loc' a' w' hio hi hav hrel
  have hput : ∀ (s:ASt) (d:Option Nat) (x:AV),(s.put d x).hp=s.hp∧(s.put d x).n=s.n∧(s.put d x).N=s.N:=fun s d x=>by cases d <;> exact ⟨rfl,rfl,rfl⟩
  obtain ⟨p1,p2,p3⟩:=hput (midS l fin listed hj) o.dst av
  refine ⟨hrel.defers,hrel.size.trans p2,fun t ht=>?_,by have:=hrel.hp;rw [p1,p3] at this;exact this⟩
  have h1:=hrel.fr t trivial
  rw [p3] at h1
  rcases frame (hj:=hj) hio hi hav t with e|e
  ·rw [e];exact .zA _
  ·rw [e];exact h1
 refine (fun start step done=>z7p I step done _ _ _ _ (by simp [left]) start) ?_ ?_ ?_
 ·-- the start
  refine ⟨0,(s.hp,s.N),loc,by simp,fun i k hi=>(by rw [getD_replicate_false] at hi;cases hi),Nat.zero_le _,fun i _=>⟨fun hi=>(by rw [getD_replicate_false] at hi;cases hi),fun hi=>absurd hi (Nat.not_lt_zero _)⟩,by rw [hmem];rfl,?_,.of_below (Blw.refl _ _).drew⟩
  have hrd:=hr.below (Blw.refl _ _).drew
  refine ⟨hrd.defers,hrd.size.trans hn.symm,fun t _=>?_,hrd.hp⟩
  rw [z0W]
  split
  ·exact .zA _
  ·rename_i hk
   rw [ho.out t (fun e he hd=>?_)]
   ·exact hrd.fr t trivial
   ·obtain ⟨i,hi⟩:=List.mem_iff_getElem?.1 he
    obtain ⟨o,f⟩:=e
    obtain ⟨h1,h2⟩:=z1E hi
    simp only at hd
    refine hk ⟨by rw [hn];exact dsts h1 hd,?_⟩
    cases h3:known l (Array.replicate l.toArray.size false) t with
    | false=>rfl
    | true =>
     simp only [known,List.all_eq_true,List.mem_range,Bool.or_eq_true] at h3
     rcases h3 i (List.getElem?_eq_some_iff.1 h1).1 with h3|h3
     ·simp [h1,hd] at h3
     ·rw [getD_replicate_false] at h3;cases h3
 ·-- a step
  intro listed a' w' i ⟨j,hj,loc',hsl,hcl,hjm,hwr,hhj,hrel,hext⟩ hrdy
  obtain ⟨hun,o,hio',hall⟩:=mem_ready.1 hrdy
  have hio:l[i]? = some o:=by simpa using hio'
  have hil:i<l.length:=(List.getElem?_eq_some_iff.1 hio).1
  have hun' : ¬ listed.getD i false=true:=fun e=>by
   have hlt:i<listed.size:=by omega
   simp [hlt] at e hun;rw [e] at hun;cases hun
  obtain ⟨f,hf,hc⟩:=z1v hB hio
  have hzip:(l.zip fl)[i]? = some (o,f):=by rw [List.getElem?_zip_eq_some];exact ⟨hio,hf⟩
  simp only [z3c,Bool.and_eq_true,List.all_eq_true] at hc
  obtain ⟨_,_,_,_,hc5⟩:=hc
  have hlk:=looks (hj:=hj) hio hrdy
  unfold wpOp
  rw [hio']
  cases f with
  | some lh =>
   obtain ⟨lo,hi⟩:=lh
   simp only [Bool.and_eq_true,Bool.or_eq_true,decide_eq_true_eq,List.any_eq_true,List.mem_range,beq_iff_eq] at hc5
   obtain ⟨c1,c2⟩:=hc5
   have hlo:lo≤j:=by
    rcases c1 with c1|⟨k,_,k1,k2,k3⟩
    ·omega
    ·have:=(hwr k (z1u k1)).1 (ready hrdy k3)
     omega
   have hhi:j≤hi:=by
    rcases c2 with c2|⟨k,_,k1,k2,k3⟩
    ·omega
    ·refine Nat.le_of_not_lt fun hlt=>hun' (hcl k i ((hwr k (z1u k1)).2 (by omega)) k3)
   obtain ⟨d,hd⟩:=hfit.dst _ (List.mem_of_getElem? hzip) rfl
   simp only at hd
   have hgok:=ho.val i o lo hi hzip d hd j hj hlo hhi hhj
   have hrl:Rel (Go.Proofs.YtdlgoofjechocaaGreatDoor.looks l.toArray o) L ⟨fin.fr,hj.1,fin.n,hj.2⟩ loc' a' w':=⟨hrel.defers,hrel.size,fun t ht=>by have:=hrel.fr t trivial;rw [hlk t ht] at this;exact this,hrel.hp⟩
   have after : ∀ {v:Value} {w2:World},Blw w'.heap.size w' w2→AR hj.2 (Dm L loc') loc' w2 (fin.get d) v→I (listed.setIfInBounds i true) (a'.put o.dst v) w2:=by
    intro v w2 hb hav
    refine ⟨j,hj,loc',by simpa using hsl,closed hsl hil hcl hrdy,hjm,fun k hk=>?_,hhj,?_,hext.trans (.of_below hb)⟩
    ·have hne:i ≠ k:=fun e=>by subst e;rw [hf] at hk;cases hk
     rw [getD_set_ne false hne];exact hwr k hk
    ·refine toMid (av:=fin.get d) hio (by omega) (by simp [dav,hd]) ?_
     exact (hrel.below hb).put' (fun t ht=>by show t<fin.n;rw [hn];exact dsts hio ht) hav
   unfold GOK at hgok
   split at hgok
   ·rename_i hg
    have hw:Region.wanted o (yielded l.toArray a'.tmps)=true:=by simp [Region.wanted,hg]
    simp only [hw,if_true]
    refine .inl ?_
    unfold Oper.wp
    rcases hgok L loc' a' w' hrl with ⟨v,w2,h1,h2,h3⟩|⟨g,args,h1,h2⟩
    ·rw [h1];exact after h2 h3
    ·rw [h1]
     refine h2.mono fun e w2 ⟨v,he,hb,hav⟩=>?_
     subst he
     exact after hb hav
   ·rename_i g want hg
    rcases hgok with ⟨t,b,ht,hb,h3,h4⟩|⟨t,ht,hb,h4⟩
    rotate_left
    ·have htm:t ∈ o.looksAt l.toArray:=List.mem_append.2 (.inr (by rw [hg];simp only [ht];simp))
     have hw:=z3Z hrl htm hg ht hb
     simp only [hw,Bool.false_eq_true,if_false]
     exact after (Blw.refl _ _) (by rw [h4];exact .tup [] #[] rfl (fun j x hx=>by simp at hx))
    have htm:t ∈ o.looksAt l.toArray:=List.mem_append.2 (.inr (by rw [hg];simp only [ht];simp))
    have hbt:=z1g hrl (t:=t) (b:=b) htm hb
    have hwt:Region.wanted o (yielded l.toArray a'.tmps)=(b==want):=by
     simp only [Region.wanted,hg,yielded,ht,hbt,Option.bind_some]
     cases b <;> cases want <;> rfl
    by_cases e:b=want
    ·have hw:Region.wanted o (yielded l.toArray a'.tmps)=true:=by rw [hwt];simpa using e
     simp only [hw,if_true]
     refine .inl ?_
     unfold Oper.wp
     rcases h3 e L loc' a' w' hrl with ⟨v,w2,h1,h2,h3⟩|⟨g,args,h1,h2⟩
     ·rw [h1];exact after h2 h3
     ·rw [h1]
      refine h2.mono fun e w2 ⟨v,he,hb,hav⟩=>?_
      subst he
      exact after hb hav
    ·have hw:Region.wanted o (yielded l.toArray a'.tmps)=false:=by rw [hwt];simpa using e
     simp only [hw,Bool.false_eq_true,if_false]
     exact after (Blw.refl _ _) (by rw [h4 e];exact .tup [] #[] rfl (fun j x hx=>by simp at hx))
  | none =>
   simp only [Bool.and_eq_true,Bool.or_eq_true,decide_eq_true_eq,List.any_eq_true,List.mem_range,beq_iff_eq] at hc5
   obtain ⟨c1,c2⟩:=hc5
   have hge : ¬ rkf fl i<j:=fun e=>hun' ((hwr i hf).2 e)
   have hj' : rkf fl i=j:=by
    rcases c2 with c2|⟨k,_,k1,k2,k3⟩
    ·omega
    ·have hk3:listed.getD k false=true:=by
      simp only [z8L,Bool.or_eq_true,List.any_eq_true,Bool.and_eq_true] at k3
      rcases k3 with k3|⟨j',_,j1,j2⟩
      ·exact ready hrdy k3
      ·exact hcl j' k (ready hrdy j1) j2
     have:=(hwr k (z1u k1)).1 hk3
     omega
   obtain ⟨h1,h2,e1,e2,hwe⟩:=ho.wr i o hzip
   rw [z4T i hlen] at e1 e2
   simp only [List.length_nil,Nat.zero_add,hj'] at e1 e2
   rw [hhj] at e1;cases e1
   have hg:o.guard=none:=by simpa using c1
   have hw:Region.wanted o (yielded l.toArray a'.tmps)=true:=by simp [Region.wanted,hg]
   simp only [hw,if_true]
   refine .inl ?_
   have:=hwe (midS l fin listed hj) rfl rfl rfl hlk (fun t ht=>by show t<fin.n;rw [hn];exact dsts hio ht) L loc' a' w' hrel
   refine z2D (fun a2 w2 ⟨loc2,hr2,hx2⟩=>?_) (fun _ _ _ h=>h.elim) this
   refine ⟨j+1,h2,loc2,by simpa using hsl,closed hsl hil hcl hrdy,by have:=rkf_lt hf;omega,fun k hk=>?_,e2,?_,hext.trans hx2⟩
   ·by_cases e:i=k
    ·subst e
     have hlt:i<listed.size:=by omega
     simp [hlt];omega
    ·rw [getD_set_ne false e,hwr k hk]
     have:rkf fl k ≠ j:=fun e'=>e (rkf_inj hf hk (hj'.trans e'.symm))
     omega
   ·exact toMid (av:=dav o fin) hio (by omega) rfl hr2
 ·-- the end
  intro listed a' w' ⟨j,hj,loc',hsl,hcl,hjm,hwr,hhj,hrel,hext⟩ hnil
  have all : ∀ i,i<l.length→listed.getD i false=true:=by
   intro i
   induction i using Nat.strongRecOn with
   | _ i ih =>
    intro hil
    refine Classical.byContradiction fun hno=>?_
    have hio:l[i]? = some l[i]:=List.getElem?_eq_getElem hil
    obtain ⟨f,hf,hc⟩:=z1v hB hio
    simp only [z3c,Bool.and_eq_true] at hc
    have hmr:i ∈ Region.ready .any l.toArray listed:=by
     refine mem_ready.2 ⟨?_,l[i],by simp,fun e he hb=>?_⟩
     ·have hlt:i<listed.size:=by omega
      simp [hlt] at hno ⊢;exact hno
     ·have:=Array.all_eq_true_iff_forall_mem.1 hc.2.1 e he
      simp only [hb,Bool.not_true,Bool.false_or,decide_eq_true_eq] at this
      exact ih e.on this (by omega)
    rw [hnil] at hmr;cases hmr
  have hjl:j=rkf fl fl.length:=by
   simp only [z9R,Bool.and_eq_true,Bool.or_eq_true,decide_eq_true_eq,List.any_eq_true,List.mem_range,beq_iff_eq] at hB
   rcases hB.2.1 with h0|⟨i,h1,h2,h3⟩
   ·omega
   ·have:=(hwr i (z1u h2)).1 (all i (by omega))
    omega
  have hlast:hj=(fin.hp,fin.N):=by
   have h1:=ho.last
   rw [List.getLast?_eq_getElem?,hpl] at h1
   rw [hjl] at hhj
   simp only [Nat.add_sub_cancel] at h1
   rw [h1] at hhj
   exact (Option.some.inj hhj).symm
  subst hlast
  refine .of (s':=fin) (loc':=loc') ⟨rfl,hq⟩ ⟨hrel.defers,hrel.size,fun t _=>?_,hrel.hp⟩ hext
  have hk:known l listed t=true:=by
   simp only [known,List.all_eq_true,List.mem_range,Bool.or_eq_true]
   exact fun i hi => .inr (all i hi)
  have h1:=hrel.fr t trivial
  rw [z0W,if_neg (by rw [hk];simp)] at h1
  exact h1
def WCg (P:Program) (ds:List (Option Nat)) (N:List Pend→ASt→Prop) (o:Oper) (lo hi:Nat) (pend:List Pend) (prev:List (Hp × Nat)) (s:ASt):Prop:=match o.guard with
  | none=>WOv P o s fun s'=>WCv P N pend prev o lo hi s s'
  | some (g,want)=>match ds[g]? with
   | some (some t)=>match s.get t with
    | .p (.val (.bool b))=>WG b want (WOv P o (s.put (some t) (.bool want)) fun s'=>WCv P N pend prev o lo hi (s.put (some t) (.bool want)) s') (N pend ((s.put (some t) (.bool (!want))).put o.dst (.tup [])))
    | .tup []=>N pend (s.put o.dst (.tup []))
    | _=>False
   | _=>False
theorem WC.z0Q {P:Program} {ds:List (Option Nat)} {Q:ASt→Prop} {o:Oper} {lo hi:Nat} {r:El} {pend:List Pend} {prev:List (Hp × Nat)} {s:ASt} (h : ∀ K:List Pend→ASt→Prop,(∀ pd s,WC P ds Q r pd prev s→K pd s)→WCg P ds K o lo hi pend prev s):WC P ds Q ((o,some (lo,hi)) :: r) pend prev s:=h _ fun _ _ h=>h
theorem WC.stepW {P:Program} {ds:List (Option Nat)} {Q:ASt→Prop} {o:Oper} {r:El} {pend:List Pend} {prev:List (Hp × Nat)} {s:ASt} (h : ∀ K:ASt→Prop,(∀ s',WC P ds Q r pend (prev ++ [(s.hp,s.N)]) s' → K s')→WOw P o s fun s'=>allP pend (fun p=>prev.length<p.2.1→Chk P p.1 { s with hp:=s'.hp,N:=s'.N } p.2.2)∧K s'):WC P ds Q ((o,none) :: r) pend prev s:=h _ fun _ h=>h
theorem WC.fin {P:Program} {ds:List (Option Nat)} {Q:ASt→Prop} {pend:List Pend} {prev:List (Hp × Nat)} {s:ASt} (h:Q s):WC P ds Q [] pend prev s:=h
theorem zl {P:Program} {s:ASt} {f:FuncId} {xs:List AV} {K:AV→Prop} {r:AV} {B:Prop} (h:CallV P s f xs r) (k:K r):(∃ r,CallV P s f xs r∧K r)∨B := .inl ⟨r,h,k⟩
theorem zM {P:Program} {s:ASt} {f:FuncId} {xs:List AV} {d:Option Nat} {K:ASt→Prop} {A:Prop} (n:Nat) (hp:Hp) (Q:Hp→AV→Prop) (ks:List Nat) (h1:Ent P f) (h2:MemC P f n hp xs Q) (h3:Passes s n hp) (h4:(xs.all (·.okB n))=true) (h5 : ∀ hp' r,Q hp' r→(∀ t ∈ ks,t<n→Kept hp hp' t)∧K ((s.zR n ks hp').put d r)):A∨z5w P s f xs d K := .inr (.inl ⟨n,hp,Q,ks,h1,h2,h3,h4,h5⟩)
theorem zm {P:Program} {s:ASt} {f:FuncId} {xs:List AV} {K:AV→Prop} {r:AV} (h:CallV P s f xs r) (k:K r) : ∃ r,CallV P s f xs r∧K r:=⟨r,h,k⟩
def AV.cut (t m:Nat):AV→AV
 | .own t'=>if t' = t then .zA else .own t'
 | .pre t' m'=>if t' = t∧m' = m then .own t' else .pre t' m'
 | .suf t' n m'=>if t' = t then .zA else .suf t' n m'
 | .fn f cs => .fn f (cs.attach.map fun ⟨c,_⟩=>AV.cut t m c)
 | .agg cs => .agg (cs.attach.map fun ⟨c,_⟩=>AV.cut t m c)
 | .tup cs => .tup (cs.attach.map fun ⟨c,_⟩=>AV.cut t m c)
 | x=>x
theorem AV.cut_own (t m k:Nat):AV.cut t m (.own k)=if k=t then .zA else .own k:=by simp [AV.cut]
theorem AV.cut_suf (t m k n j:Nat):AV.cut t m (.suf k n j)=if k=t then .zA else .suf k n j:=by simp [AV.cut]
theorem AV.cut_pre (t m k j:Nat):AV.cut t m (.pre k j)=if k=t∧j=m then .own k else .pre k j:=by simp [AV.cut]
theorem AV.cut_ptr (t m k j:Nat):AV.cut t m (.ptr k j) = .ptr k j:=by simp [AV.cut]
theorem AV.cut_rptr (t m k j i l:Nat):AV.cut t m (.rptr k j i l) = .rptr k j i l:=by simp [AV.cut]
theorem AV.cut_p (t m:Nat) (x:PV):AV.cut t m (.p x) = .p x:=by simp [AV.cut]
theorem AV.cut_elt (t m:Nat) (r:List PV) (k:Nat):AV.cut t m (.elt r k) = .elt r k:=by simp [AV.cut]
theorem AV.z9p (t m:Nat):AV.cut t m .zA = .zA:=by simp [AV.cut]
theorem AV.cut_cap0 (t m:Nat):AV.cut t m .cap0 = .cap0:=by simp [AV.cut]
theorem AV.cut_fn (t m:Nat) (f:Fn) (cs:List AV):AV.cut t m (.fn f cs) = .fn f (cs.map (AV.cut t m)):=by simp [AV.cut]
theorem AV.cut_agg (t m:Nat) (cs:List AV):AV.cut t m (.agg cs) = .agg (cs.map (AV.cut t m)):=by simp [AV.cut]
theorem AV.cut_tup (t m:Nat) (cs:List AV):AV.cut t m (.tup cs) = .tup (cs.map (AV.cut t m)):=by simp [AV.cut]
theorem AR.cut {N:Nat} {D:Nat→Prop} {loc loc' : Nat→Option Value} {w:World} {t m b l c:Nat} {x:AV} {v:Value} (h:AR N D loc w x v) {D' : Nat→Prop} (hD : ∀ k,D' k→D k) (h0:loc t=some (.slice (some ⟨b,0,none⟩) l c)) (h1:loc' t=some (.slice (some ⟨b,0,none⟩) m c)) (h2 : ∀ k,k ≠ t→loc' k=loc k):AR N D' loc' w (AV.cut t m x) v:=by
 induction h with
 | p x v h=>rw [AV.cut_p];exact .p x v (h.mono (Kp.refl _ _) fun k _ h=>hD k h)
 | elt row off b o f hb hnD hc hr=>rw [AV.cut_elt];exact .elt row off b o f hb (fun h=>hnD (hD _ h)) hc fun j x h=>(hr j x h).mono (Kp.refl _ _) fun k _ h=>hD k h
 | ptr k off v ht g h =>
  rw [AV.cut_ptr]
  refine .ptr k off v ht g fun b' hb=>?_
  by_cases e:k=t
  ·subst e;rw [h1] at hb;cases hb
  ·exact h b' ((h2 k e) ▸ hb)
 | rptr k n i off v ht g h =>
  rw [AV.cut_rptr]
  refine .rptr k n i off v ht g fun b' l' c' hb=>?_
  by_cases e:k=t
  ·subst e;rw [h1] at hb;cases hb;exact h _ _ _ h0
  ·exact h b' l' c' ((h2 k e) ▸ hb)
 | own k v ht g h =>
  rw [AV.cut_own]
  split
  ·exact .zA _
  ·rename_i e;exact .own k v ht g fun u hu=>h u ((h2 k e) ▸ hu)
 | suf k n j v ht g h =>
  rw [AV.cut_suf]
  split
  ·exact .zA _
  ·rename_i e;exact .suf k n j v ht g fun b' l' c' hb=>h b' l' c' ((h2 k e) ▸ hb)
 | pre k j v ht g h =>
  rw [AV.cut_pre]
  split
  ·rename_i e
   obtain ⟨rfl,rfl⟩:=e
   refine .own k v ht g fun u hu=>?_
   rw [h1] at hu;cases hu;exact h _ _ _ h0
  ·refine .pre k j v ht g fun b' l' c' hb=>?_
   by_cases e:k=t
   ·subst e;rw [h1] at hb;cases hb;exact h _ _ _ h0
   ·exact h b' l' c' ((h2 k e) ▸ hb)
 | fn f caps vs hlen _ ih =>
  rw [AV.cut_fn]
  refine .fn f _ vs (by simpa using hlen) fun j x hx=>?_
  simp only [List.getElem?_map,Option.map_eq_some_iff] at hx
  obtain ⟨c,hc,rfl⟩:=hx
  exact ih j c hc
 | agg cs vs hlen _ h1 ih =>
  rw [AV.cut_agg]
  refine .agg _ vs (by simpa using hlen) (fun j x hx=>?_) h1
  simp only [List.getElem?_map,Option.map_eq_some_iff] at hx
  obtain ⟨c,hc,rfl⟩:=hx
  exact ih j c hc
 | tup cs vs hlen _ ih =>
  rw [AV.cut_tup]
  refine .tup _ vs (by simpa using hlen) fun j x hx=>?_
  simp only [List.getElem?_map,Option.map_eq_some_iff] at hx
  obtain ⟨c,hc,rfl⟩:=hx
  exact ih j c hc
 | cap0 a h=>rw [AV.cut_cap0];exact .cap0 a fun x hx=>⟨(h x hx).1,fun hd=>(h x hx).2.1 (hD _ hd),(h x hx).2.2⟩
 | zA v=>rw [AV.z9p];exact .zA v
def AO.cut (t m:Nat):AO→AO
 | .boxP pin ty cs => .boxP pin ty (cs.map (AV.cut t m))
 | .row e n rows => .row e n rows
 | .map pin P k n f => .map pin P k n f
 | .raw u ob => .raw u ob
 | .lrec l sp fr => .lrec l sp (fr.map fun p=>(p.1,AV.cut t m p.2))
 | .amap P k n f q => .amap P k n (fun l=>(f l).map (AV.cut t m)) q
 | .arow e cs => .arow e (cs.map (AV.cut t m))
def ASt.cut (s:ASt) (t m:Nat):ASt:=match s.hp.lookup t with
 | some (.row e n rows)=>if m≤rows.length ∧ 0<rows.length then { s with fr:=s.fr.map fun p=>(p.1,p.2.cut t m),hp:=zF (s.hp.map fun p=>(p.1,p.2.cut t m)) t (.row e n (rows.take m)) } else s
 | _=>s
theorem zk.cut (s:ASt) (t m:Nat):zk s (s.cut t m):=by
 unfold ASt.cut
 split
 ·rename_i e n rows hlk
  split
  ·rename_i hc
   obtain ⟨hm,h0⟩:=hc
   intro L loc a w hr
   obtain ⟨htN,u,hu,flat,hown,hrn,hfl,hone⟩:=hr.hp.at' t _ hlk
   rcases hown.2 with ⟨_,h⟩|⟨g,cap,cur,rfl,g1,g2,g3,g4,g5,g6⟩
   ·omega
   ·let loc' : Nat→Option Value:=zO loc t (.slice (some ⟨g,0,none⟩) m cap)
    have l0:loc' t=some (.slice (some ⟨g,0,none⟩) m cap):=zG _ _ _
    have l1 : ∀ k,k ≠ t→loc' k=loc k:=fun k hk=>zC _ _ hk
    have blk : ∀ k z,loc' k=some z → ∃ z',loc k=some z' ∧ zP z' = zP z:=fun k z hz=>by
     by_cases ek:k=t
     ·subst ek;rw [l0] at hz;cases hz;exact ⟨_,hu,rfl⟩
     ·exact ⟨z,(l1 k ek) ▸ hz,rfl⟩
    have hD : ∀ M:Nat→Prop,∀ k,Dm M loc' k→Dm M loc k:=fun M k h=>h.imp id fun ⟨k',z,h1,h2⟩=>let ⟨z',h3,h4⟩:=blk k' z h1;⟨k',z',h3,h4.trans h2⟩
    have hcut : ∀ {x:AV} {v:Value},AR s.N (Dm L loc) loc w x v→AR s.N (Dm L loc') loc' w (x.cut t m) v:=fun h=>h.cut (hD L) hu l0 l1
    refine ⟨loc',⟨hr.defers,hr.size,fun k _=>?_,⟨fun k o ho=>?_,fun k ho=>?_,fun k k' z z' b h1 h2 h3 h4=>?_,hr.hp.inL,fun k z b h1 h2=>?_⟩⟩,⟨Kp.refl _ _,fun b h => .inl (hD _ b h)⟩⟩
    ·show AR _ _ _ _ (((List.lookup k (s.fr.map _))).getD .zA) _
     rw [zI]
     have h1:=hr.fr k trivial
     unfold ASt.get at h1
     cases hk:s.fr.lookup k with
     | none=>exact .zA _
     | some x=>rw [hk] at h1;exact hcut h1
    ·change (zF _ _ _).lookup k=some o at ho
     rw [zB,zI,zI] at ho
     by_cases ek:k=t
     ·subst ek
      rw [if_pos rfl,hlk] at ho
      cases ho
      have hl:(flat.take (m*n)).length=m*n:=by
       rw [List.length_take,hown.1];exact Nat.min_eq_left (Nat.mul_le_mul_right n hm)
      refine ⟨htN,_,l0,flat.take (m*n),⟨by rw [hl,List.length_take,Nat.min_eq_left hm],.inr ⟨g,cap,cur,by rw [List.length_take,Nat.min_eq_left hm],g1,g2,by rw [List.length_take,Nat.min_eq_left hm];omega,g4,g5,?_⟩⟩,fun r hr'=>hrn r (List.mem_of_mem_take hr'),fun i r j x h1 h2=>?_,fun v hv=>hone v (List.mem_of_mem_take hv)⟩
      ·rw [List.length_take,Nat.min_eq_left hm,← g6,List.take_take,Nat.min_eq_left (Nat.mul_le_mul_right n hm)]
      ·rw [List.getElem?_take] at h1
       split at h1
       ·rename_i hi
        obtain ⟨v,h3,h4⟩:=hfl i r j x h1 h2
        refine ⟨v,?_,h4.mono (Kp.refl _ _) fun k _ h=>hD L k h⟩
        have hj:=(List.getElem?_eq_some_iff.1 h2).1
        rw [hrn r (List.mem_of_getElem? h1)] at hj
        have:(i+1)*n≤m*n:=Nat.mul_le_mul_right n hi
        rw [Nat.add_mul] at this
        rw [List.getElem?_take,if_pos (by omega)]
        exact h3
       ·cases h1
     ·rw [if_neg ek] at ho
      obtain ⟨o',h1,rfl⟩:=Option.map_eq_some_iff.1 ho
      obtain ⟨h2,z,h3,h4⟩:=hr.hp.at' k o' h1
      refine ⟨h2,z,(l1 k ek).trans h3,?_⟩
      cases o' with
      | boxP pin ty cs =>
       obtain ⟨b,arr,rfl,q1,q2,q3,q4⟩:=h4
       refine ⟨b,arr,rfl,q1,by simpa [AO.cut] using q2,fun j x hx=>?_,q4⟩
       simp only [List.getElem?_map,Option.map_eq_some_iff] at hx
       obtain ⟨c,hc,rfl⟩:=hx
       exact hcut (q3 j c hc)
      | row e' n' rows' =>
       obtain ⟨fl,q1,q2,q3,q4⟩:=h4
       exact ⟨fl,q1,q2,fun i r j x h1 h2=>let ⟨v,h5,h6⟩:=q3 i r j x h1 h2;⟨v,h5,h6.mono (Kp.refl _ _) fun k _ h=>hD L k h⟩,q4⟩
      | map pin P k n f=>exact h4
      | arow e cs =>
       obtain ⟨fl,q1,q3,q4⟩:=h4
       refine ⟨fl,by rw [List.length_map];exact q1,fun j x hx=>?_,q4⟩
       simp only [List.getElem?_map,Option.map_eq_some_iff] at hx
       obtain ⟨c,hc,rfl⟩:=hx
       obtain ⟨v,h5,h6⟩:=q3 j c hc
       exact ⟨v,h5,hcut h6⟩
      | raw u ob=>exact h4
      | amap P k n f q =>
       obtain ⟨b,DD,g,rfl,q1,q2,q3,q5⟩:=h4
       refine ⟨b,DD,g,rfl,q1,q2,fun kl=>⟨fun x hx=>?_,fun hx=>(q3 kl).2 (by simpa using hx)⟩,q5⟩
       obtain ⟨x',hx',rfl⟩:=Option.map_eq_some_iff.1 hx
       obtain ⟨v,k1,k2⟩:=(q3 kl).1 x' hx'
       exact ⟨v,k1,hcut k2⟩
      | lrec l sp fr =>
       obtain ⟨rfl,tmps,q1,q2,q3⟩:=h4
       refine ⟨rfl,tmps,q1,q2,fun i=>?_⟩
       rw [zI]
       have h5:=q3 i
       cases hf:fr.lookup i with
       | none=>exact .zA _
       | some x=>rw [hf] at h5;exact hcut h5
    ·change (zF _ _ _).lookup k=none at ho
     rw [zB,zI,zI] at ho
     by_cases ek:k=t
     ·subst ek;rw [if_pos rfl,hlk] at ho;cases ho
     ·rw [if_neg ek] at ho
      rw [l1 k ek]
      exact hr.hp.dead k (by simpa using ho)
    ·obtain ⟨y,f1,f2⟩:=blk k z h1
     obtain ⟨y',f3,f4⟩:=blk k' z' h2
     exact hr.hp.apart k k' y y' b f1 f3 (f2.trans h3) (f4.trans h4)
    ·obtain ⟨y,f1,f2⟩:=blk k z h1
     exact hr.hp.notL k y b f1 (f2.trans h2)
  ·exact zk.refl s
 ·exact zk.refl s
def AV.ren (t t' : Nat):AV→AV
 | .own k=>if k=t then .own t' else if k=t' then .zA else .own k
 | .ptr k j=>if k=t then .ptr t' j else if k=t' then .zA else .ptr k j
 | .rptr k n i j=>if k=t then .rptr t' n i j else if k=t' then .zA else .rptr k n i j
 | .pre k j=>if k=t then .pre t' j else if k=t' then .zA else .pre k j
 | .suf k n j=>if k=t then .suf t' n j else if k=t' then .zA else .suf k n j
 | .fn f cs => .fn f (cs.attach.map fun ⟨c,_⟩=>AV.ren t t' c)
 | .agg cs => .agg (cs.attach.map fun ⟨c,_⟩=>AV.ren t t' c)
 | .tup cs => .tup (cs.attach.map fun ⟨c,_⟩=>AV.ren t t' c)
 | x=>x
theorem AV.ql (t t' k:Nat):AV.ren t t' (.own k)=if k=t then .own t' else if k=t' then .zA else .own k:=by simp [AV.ren]
theorem AV.qZ (t t' k j:Nat):AV.ren t t' (.ptr k j)=if k=t then .ptr t' j else if k=t' then .zA else .ptr k j:=by simp [AV.ren]
theorem AV.qH (t t' k n i j:Nat):AV.ren t t' (.rptr k n i j)=if k=t then .rptr t' n i j else if k=t' then .zA else .rptr k n i j:=by simp [AV.ren]
theorem AV.ren_suf (t t' k n j:Nat):AV.ren t t' (.suf k n j)=if k=t then .suf t' n j else if k=t' then .zA else .suf k n j:=by simp [AV.ren]
theorem AV.z0n (t t' k j:Nat):AV.ren t t' (.pre k j)=if k=t then .pre t' j else if k=t' then .zA else .pre k j:=by simp [AV.ren]
theorem AV.z1Q (t t' : Nat) (x:PV):AV.ren t t' (.p x) = .p x:=by simp [AV.ren]
theorem AV.z0k (t t' : Nat) (r:List PV) (k:Nat):AV.ren t t' (.elt r k) = .elt r k:=by simp [AV.ren]
theorem AV.qI (t t' : Nat):AV.ren t t' .zA = .zA:=by simp [AV.ren]
theorem AV.qG (t t' : Nat):AV.ren t t' .cap0 = .cap0:=by simp [AV.ren]
theorem AV.z1a (t t' : Nat) (f:Fn) (cs:List AV):AV.ren t t' (.fn f cs) = .fn f (cs.map (AV.ren t t')):=by simp [AV.ren]
theorem AV.z0m (t t' : Nat) (cs:List AV):AV.ren t t' (.agg cs) = .agg (cs.map (AV.ren t t')):=by simp [AV.ren]
theorem AV.z0l (t t' : Nat) (cs:List AV):AV.ren t t' (.tup cs) = .tup (cs.map (AV.ren t t')):=by simp [AV.ren]
theorem AR.ren {N:Nat} {D:Nat→Prop} {loc loc' : Nat→Option Value} {w:World} {t t' : Nat} {x:AV} {v:Value} (h:AR N D loc w x v) {D' : Nat→Prop} (hD : ∀ k,D' k→D k) (ht' : t' < N) (h0:loc' t' = loc t) (h1 : ∀ k u,k ≠ t→k ≠ t' → loc' k=some u→loc k=some u):AR N D' loc' w (AV.ren t t' x) v:=by
 induction h with
 | p x v h=>rw [AV.z1Q];exact .p x v (h.mono (Kp.refl _ _) fun k _ h=>hD k h)
 | elt row off b o f hb hnD hc hr=>rw [AV.z0k];exact .elt row off b o f hb (fun h=>hnD (hD _ h)) hc fun j x h=>(hr j x h).mono (Kp.refl _ _) fun k _ h=>hD k h
 | ptr k off v ht g h =>
  rw [AV.qZ]
  split
  ·rename_i e;subst e;exact .ptr t' off v ht' g fun b hb=>h b (h0 ▸ hb)
  ·rename_i e;split
   ·exact .zA _
   ·rename_i e';exact .ptr k off v ht g fun b hb=>h b (h1 k _ e e' hb)
 | rptr k n i off v ht g h =>
  rw [AV.qH]
  split
  ·rename_i e;subst e;exact .rptr t' n i off v ht' g fun b l c hb=>h b l c (h0 ▸ hb)
  ·rename_i e;split
   ·exact .zA _
   ·rename_i e';exact .rptr k n i off v ht g fun b l c hb=>h b l c (h1 k _ e e' hb)
 | own k v ht g h =>
  rw [AV.ql]
  split
  ·rename_i e;subst e;exact .own t' v ht' g fun u hu=>h u (h0 ▸ hu)
  ·rename_i e;split
   ·exact .zA _
   ·rename_i e';exact .own k v ht g fun u hu=>h u (h1 k _ e e' hu)
 | suf k n j v ht g h =>
  rw [AV.ren_suf]
  split
  ·rename_i e;subst e;exact .suf t' n j v ht' g fun b l c hb=>h b l c (h0 ▸ hb)
  ·rename_i e;split
   ·exact .zA _
   ·rename_i e';exact .suf k n j v ht g fun b l c hb=>h b l c (h1 k _ e e' hb)
 | pre k j v ht g h =>
  rw [AV.z0n]
  split
  ·rename_i e;subst e;exact .pre t' j v ht' g fun b l c hb=>h b l c (h0 ▸ hb)
  ·rename_i e;split
   ·exact .zA _
   ·rename_i e';exact .pre k j v ht g fun b l c hb=>h b l c (h1 k _ e e' hb)
 | fn f caps vs hlen _ ih =>
  rw [AV.z1a]
  refine .fn f _ vs (by simpa using hlen) fun j x hx=>?_
  simp only [List.getElem?_map,Option.map_eq_some_iff] at hx
  obtain ⟨c,hc,rfl⟩:=hx
  exact ih j c hc
 | agg cs vs hlen _ h1 ih =>
  rw [AV.z0m]
  refine .agg _ vs (by simpa using hlen) (fun j x hx=>?_) h1
  simp only [List.getElem?_map,Option.map_eq_some_iff] at hx
  obtain ⟨c,hc,rfl⟩:=hx
  exact ih j c hc
 | tup cs vs hlen _ ih =>
  rw [AV.z0l]
  refine .tup _ vs (by simpa using hlen) fun j x hx=>?_
  simp only [List.getElem?_map,Option.map_eq_some_iff] at hx
  obtain ⟨c,hc,rfl⟩:=hx
  exact ih j c hc
 | cap0 a h=>rw [AV.qG];exact .cap0 a fun x hx=>⟨(h x hx).1,fun hd=>(h x hx).2.1 (hD _ hd),(h x hx).2.2⟩
 | zA v=>rw [AV.qI];exact .zA v
def AO.ren (t t' : Nat):AO→AO
 | .boxP pin ty cs => .boxP pin ty (cs.map (AV.ren t t'))
 | .row e n rows => .row e n rows
 | .map pin P k n f => .map pin P k n f
 | .raw u ob => .raw u ob
 | .lrec l sp fr => .lrec l sp (fr.map fun p=>(p.1,AV.ren t t' p.2))
 | .amap P k n f q => .amap P k n (fun l=>(f l).map (AV.ren t t')) q
 | .arow e cs => .arow e (cs.map (AV.ren t t'))
def ASt.ren (s:ASt) (t t' : Nat):ASt:=match s.hp.lookup t with
 | some o=>if t' < s.N∧t ≠ t' then { s with fr:=s.fr.map fun p=>(p.1,p.2.ren t t'),hp:=(t',o.ren t t') :: (s.hp.filter fun p=>p.1 != t&&p.1 != t').map fun p=>(p.1,p.2.ren t t') } else s
 | none=>s
theorem z1K {α:Type} (l:List (Nat × α)) (t t' k:Nat):(l.filter fun p=>p.1 != t&&p.1 != t').lookup k=if k=t∨k=t' then none else l.lookup k:=by
 induction l with
 | nil=>simp
 | cons p r ih =>
  obtain ⟨j,x⟩:=p
  by_cases ek:k=j
  ·subst ek
   by_cases h:k=t∨k=t'
   ·rw [if_pos h,List.filter_cons,if_neg (by simp;intro h1;exact h.resolve_left h1),ih,if_pos h]
   ·rw [if_neg h,List.filter_cons,if_pos (by simp;exact ⟨fun e=>h (.inl e),fun e=>h (.inr e)⟩),zi,zi]
  ·rw [ze ek,← ih,List.filter_cons]
   split
   ·rw [ze ek]
   ·rfl
theorem zk.ren (s:ASt) (t t' : Nat):zk s (s.ren t t'):=by
 unfold ASt.ren
 split
 ·rename_i o hlk
  split
  ·rename_i hc
   obtain ⟨ht',hne⟩:=hc
   intro L loc a w hr
   let loc' : Nat→Option Value:=fun k=>if k=t' then loc t else if k=t then none else loc k
   have l0:loc' t' = loc t:=by simp [loc']
   have l1 : ∀ k u,loc' k=some u→(k=t' ∧ loc t=some u)∨(k ≠ t∧k ≠ t' ∧ loc k=some u):=fun k u h=>by
    simp only [loc'] at h
    split at h
    ·rename_i e;exact .inl ⟨e,h⟩
    ·rename_i e;split at h
     ·cases h
     ·rename_i e2;exact .inr ⟨e2,e,h⟩
   have hD : ∀ M:Nat→Prop,∀ k,Dm M loc' k→Dm M loc k:=fun M k h=>h.imp id fun ⟨k',z,h1,h2⟩=>by
    rcases l1 k' z h1 with ⟨_,h3⟩|⟨_,_,h3⟩
    ·exact ⟨t,z,h3,h2⟩
    ·exact ⟨k',z,h3,h2⟩
   have har : ∀ {x:AV} {v:Value},AR s.N (Dm L loc) loc w x v→AR s.N (Dm L loc') loc' w (x.ren t t') v:=fun h=>h.ren (hD L) ht' l0 fun k u e1 e2 hu=>by
    rcases l1 k u hu with ⟨e,_⟩|⟨_,_,h⟩
    ·exact absurd e e2
    ·exact h
   have hor : ∀ {u:Value} {o:AO},OR s.N (Dm L loc) loc w u o→OR s.N (Dm L loc') loc' w u (o.ren t t'):=fun {u o} h4=>by
    cases o with
    | boxP pin ty cs =>
     obtain ⟨b,arr,rfl,q1,q2,q3,q4⟩:=h4
     refine ⟨b,arr,rfl,q1,by simpa [AO.ren] using q2,fun j x hx=>?_,q4⟩
     simp only [List.getElem?_map,Option.map_eq_some_iff] at hx
     obtain ⟨c,hc,rfl⟩:=hx
     exact har (q3 j c hc)
    | row e' n' rows' =>
     obtain ⟨fl,q1,q2,q3,q4⟩:=h4
     exact ⟨fl,q1,q2,fun i r j x h1 h2=>let ⟨v,h5,h6⟩:=q3 i r j x h1 h2;⟨v,h5,h6.mono (Kp.refl _ _) fun k _ h=>hD L k h⟩,q4⟩
    | map pin P k n f=>exact h4
    | arow e cs =>
     obtain ⟨fl,q1,q3,q4⟩:=h4
     refine ⟨fl,by rw [List.length_map];exact q1,fun j x hx=>?_,q4⟩
     simp only [List.getElem?_map,Option.map_eq_some_iff] at hx
     obtain ⟨c,hc,rfl⟩:=hx
     obtain ⟨v,h5,h6⟩:=q3 j c hc
     exact ⟨v,h5,har h6⟩
    | raw u ob=>exact h4
    | amap P k n f q =>
     obtain ⟨b,DD,g,rfl,q1,q2,q3,q5⟩:=h4
     refine ⟨b,DD,g,rfl,q1,q2,fun kl=>⟨fun x hx=>?_,fun hx=>(q3 kl).2 (by simpa using hx)⟩,q5⟩
     obtain ⟨x',hx',rfl⟩:=Option.map_eq_some_iff.1 hx
     obtain ⟨v,k1,k2⟩:=(q3 kl).1 x' hx'
     exact ⟨v,k1,har k2⟩
    | lrec l sp fr =>
     obtain ⟨rfl,tmps,q1,q2,q3⟩:=h4
     refine ⟨rfl,tmps,q1,q2,fun i=>?_⟩
     rw [zI]
     have h5:=q3 i
     cases hf:fr.lookup i with
     | none=>exact .zA _
     | some x=>rw [hf] at h5;exact har h5
   refine ⟨loc',⟨hr.defers,hr.size,fun k _=>?_,⟨fun k ob ho=>?_,fun k ho=>?_,fun k k' z z' b h1 h2 h3 h4=>?_,hr.hp.inL,fun k z b h1 h2=>?_⟩⟩,⟨Kp.refl _ _,fun b h => .inl (hD _ b h)⟩⟩
   ·show AR _ _ _ _ (((List.lookup k (s.fr.map _))).getD .zA) _
    rw [zI]
    have h1:=hr.fr k trivial
    unfold ASt.get at h1
    cases hk:s.fr.lookup k with
    | none=>exact .zA _
    | some x=>rw [hk] at h1;exact har h1
   ·by_cases ek:k=t'
    ·subst ek
     rw [zi] at ho
     cases ho
     obtain ⟨_,u,h1,h2⟩:=hr.hp.at' t o hlk
     exact ⟨ht',u,l0.trans h1,hor h2⟩
    ·rw [ze ek,zI,z1K] at ho
     split at ho
     ·cases ho
     ·rename_i e2
      obtain ⟨o',h1,rfl⟩:=Option.map_eq_some_iff.1 ho
      obtain ⟨h2,u,h3,h4⟩:=hr.hp.at' k o' h1
      refine ⟨h2,u,?_,hor h4⟩
      simp only [loc']
      rw [if_neg ek,if_neg (fun e=>e2 (.inl e))]
      exact h3
   ·by_cases ek:k=t'
    ·subst ek;rw [zi] at ho;cases ho
    ·rw [ze ek,zI,z1K] at ho
     simp only [loc']
     rw [if_neg ek]
     split
     ·rfl
     ·rename_i e2
      rw [if_neg (fun e=>e.elim e2 ek)] at ho
      exact hr.hp.dead k (by simpa using ho)
   ·have f : ∀ {k z},loc' k=some z → ∃ k2,loc k2=some z∧((k=t' ∧ k2=t)∨(k2=k∧k ≠ t∧k ≠ t')):=fun {k z} h=>by
     rcases l1 k z h with ⟨e,h⟩|⟨e1,e2,h⟩
     ·exact ⟨t,h,.inl ⟨e,rfl⟩⟩
     ·exact ⟨k,h,.inr ⟨rfl,e1,e2⟩⟩
    obtain ⟨x,f1,f2⟩:=f h1
    obtain ⟨y,f3,f4⟩:=f h2
    have:=hr.hp.apart x y z z' b f1 f3 h3 h4
    rcases f2 with ⟨g1,g2⟩|⟨g1,g2,g3⟩ <;> rcases f4 with ⟨g4,g5⟩|⟨g4,g5,g6⟩
    ·rw [g1,g4]
    ·exact absurd (g4.symm.trans (this.symm.trans g2)) g5
    ·exact absurd (g1.symm.trans (this.trans g5)) g2
    ·rw [← g1,← g4,this]
   ·rcases l1 k z h1 with ⟨_,h3⟩|⟨_,_,h3⟩
    ·exact hr.hp.notL t z b h3 h2
    ·exact hr.hp.notL k z b h3 h2
  ·exact zk.refl s
 ·exact zk.refl s
def AO.pin (b:Nat):AO→AO
 | .boxP _ ty cs => .boxP (some b) ty cs
 | .map _ P k n f => .map (some b) P k n f
 | o=>o
theorem T.pin {F:Fence} {P:Program} {c:Code} {Q:Exit→ASt→Prop} {s:ASt} (t:Nat) (o:AO) (hlk:s.hp.lookup t=some o) (h : ∀ b,T F P c Q { s with hp:=zF s.hp t (o.pin b) }):T F P c Q s:=fun L loc a w hr=>by
 obtain ⟨htN,u,hu,hor⟩:=hr.hp.at' t o hlk
 have key : ∃ b,OR s.N (Dm L loc) loc w u (o.pin b):=by
  cases o with
  | boxP pin ty cs =>
   obtain ⟨b,arr,rfl,h1,h2,h3,h4,h5⟩:=hor
   exact ⟨b,b,arr,rfl,h1,h2,h3,h4,fun p e=>by cases e;rfl⟩
  | map pin P k n f =>
   obtain ⟨b,D,rfl,h1,h2,h3⟩:=hor
   exact ⟨b,b,D,rfl,h1,h2,fun p e=>by cases e;rfl⟩
  | row e n rows=>exact ⟨0,hor⟩
  | raw u ob=>exact ⟨0,hor⟩
  | amap P k n f q=>exact ⟨0,hor⟩
  | arow e cs=>exact ⟨0,hor⟩
  | lrec l sp fr=>exact ⟨0,hor⟩
 obtain ⟨b,hb⟩:=key
 have hset:HRel L s.N (zF s.hp t (o.pin b)) loc w:=⟨fun k ob ho=>by
  rw [zB] at ho
  by_cases e:k=t
  ·subst e
   rw [if_pos rfl,hlk] at ho
   cases ho
   exact ⟨htN,u,hu,hb⟩
  ·rw [if_neg e] at ho;exact hr.hp.at' k ob ho,fun k ho=>by
  rw [zB] at ho
  by_cases e:k=t
  ·subst e;rw [if_pos rfl,hlk] at ho;cases ho
  ·rw [if_neg e] at ho;exact hr.hp.dead k ho,hr.hp.apart,hr.hp.inL,hr.hp.notL⟩
 exact h b L loc a w ⟨hr.defers,hr.size,hr.fr,hset⟩
theorem zk.newrowB (s:ASt) (t j e n:Nat) (pin:Option Nat) (ty:TypeId) (cs:List AV) (hlk:s.hp.lookup t=some (.boxP pin ty cs)) (hj:cs[j]? = some (.p (.val (.slice none 0 0)))):zk s { s with hp:=(s.N,.row e n []) :: zF s.hp t (.boxP pin ty (cs.set j (.own s.N))),N:=s.N+1 }:=fun L loc a w hr=>by
 have hb:=Blw.refl w.heap.size w
 have htN:=(hr.hp.at' t _ hlk).1
 have h1:=hr.add hb (.slice none 0 0) (.row e n []) (fun b e=>by cases e) ⟨[],World.ownsRow_nil _ _ _ _,fun r hr=>(by cases hr),fun k r j x h=>(by simp at h),fun v hv=>(by cases hv)⟩
 refine ⟨zO loc s.N (.slice none 0 0),?_,.add hb _ _ (fun b e=>by cases e)⟩
 have hlk2:(s.add (.row e n [])).hp.lookup t=some (.boxP pin ty cs):=by
  show List.lookup t ((s.N,_) :: s.hp)=_
  rw [ze (by omega)];exact hlk
 obtain ⟨_,u,hu,b,arr,rfl,q1,q2,q3,q4,q5⟩:=h1.hp.at' t _ hlk2
 have h2:=h1.turn (o' := .boxP pin ty (cs.set j (.own s.N))) hlk2 hu rfl (Kp.refl _ _) ⟨b,arr,rfl,q1,by simpa using q2,fun i x hx=>?_,q4,q5⟩
 ·have e2:zF (s.add (.row e n [])).hp t (.boxP pin ty (cs.set j (.own s.N)))=(s.N,.row e n []) :: zF s.hp t (.boxP pin ty (cs.set j (.own s.N))):=by
   show zF ((s.N,_) :: s.hp) t _=_
   simp only [zF,List.map_cons]
   rw [if_neg (by omega)]
  rw [← e2]
  exact h2
 ·rw [List.getElem?_set] at hx
  split at hx
  ·rename_i e1
   subst e1
   split at hx
   ·cases hx
    have h5:=(q3 j _ hj).val
    rw [h5]
    exact .own s.N _ (Nat.lt_succ_self _) rfl fun z hz=>by rw [zG] at hz;cases hz;rfl
   ·cases hx
  ·exact q3 i x hx
def AV.dat (t:Nat) (row:List PV):AV→AV
 | .ptr t' k=>if t' = t then .elt row k else .ptr t' k
 | .own t'=>if t' = t then .zA else .own t'
 | .rptr t' n i j=>if t' = t then .zA else .rptr t' n i j
 | .pre t' m=>if t' = t then .zA else .pre t' m
 | .suf t' n m=>if t' = t then .zA else .suf t' n m
 | .fn f cs => .fn f (cs.attach.map fun ⟨c,_⟩=>AV.dat t row c)
 | .agg cs => .agg (cs.attach.map fun ⟨c,_⟩=>AV.dat t row c)
 | .tup cs => .tup (cs.attach.map fun ⟨c,_⟩=>AV.dat t row c)
 | x=>x
theorem AV.z7Q (t:Nat) (row:List PV) (k j:Nat):AV.dat t row (.ptr k j)=if k=t then .elt row j else .ptr k j:=by simp [AV.dat]
theorem AV.z8j (t:Nat) (row:List PV) (k:Nat):AV.dat t row (.own k)=if k=t then .zA else .own k:=by simp [AV.dat]
theorem AV.z8Y (t:Nat) (row:List PV) (k n i j:Nat):AV.dat t row (.rptr k n i j)=if k=t then .zA else .rptr k n i j:=by simp [AV.dat]
theorem AV.dat_suf (t:Nat) (row:List PV) (k n j:Nat):AV.dat t row (.suf k n j)=if k=t then .zA else .suf k n j:=by simp [AV.dat]
theorem AV.dat_pre (t:Nat) (row:List PV) (k j:Nat):AV.dat t row (.pre k j)=if k=t then .zA else .pre k j:=by simp [AV.dat]
theorem AV.dat_p (t:Nat) (row:List PV) (x:PV):AV.dat t row (.p x) = .p x:=by simp [AV.dat]
theorem AV.dat_elt (t:Nat) (row:List PV) (r:List PV) (k:Nat):AV.dat t row (.elt r k) = .elt r k:=by simp [AV.dat]
theorem AV.z9u (t:Nat) (row:List PV):AV.dat t row .zA = .zA:=by simp [AV.dat]
theorem AV.z95 (t:Nat) (row:List PV):AV.dat t row .cap0 = .cap0:=by simp [AV.dat]
theorem AV.dat_fn (t:Nat) (row:List PV) (f:Fn) (cs:List AV):AV.dat t row (.fn f cs) = .fn f (cs.map (AV.dat t row)):=by simp [AV.dat]
theorem AV.dat_agg (t:Nat) (row:List PV) (cs:List AV):AV.dat t row (.agg cs) = .agg (cs.map (AV.dat t row)):=by simp [AV.dat]
theorem AV.dat_tup (t:Nat) (row:List PV) (cs:List AV):AV.dat t row (.tup cs) = .tup (cs.map (AV.dat t row)):=by simp [AV.dat]
theorem AR.dat {N:Nat} {D:Nat→Prop} {loc loc' : Nat→Option Value} {w:World} {t b:Nat} {row:List PV} {x:AV} {v:Value} (h:AR N D loc w x v) {D' : Nat→Prop} (hD : ∀ k,D' k→D k) (h0:loc t=some (.pointer (some ⟨b,0,none⟩))) (h1 : ∀ k u,loc' k=some u→k ≠ t∧loc k=some u)
  (hrow : ∀ j,AR N D' loc' w (.elt row j) (.pointer (some ⟨b,j,none⟩))):AR N D' loc' w (AV.dat t row x) v:=by
 induction h with
 | p x v h=>rw [AV.dat_p];exact .p x v (h.mono (Kp.refl _ _) fun k _ h=>hD k h)
 | elt r off b o f hb hnD hc hr=>rw [AV.dat_elt];exact .elt r off b o f hb (fun h=>hnD (hD _ h)) hc fun j x h=>(hr j x h).mono (Kp.refl _ _) fun k _ h=>hD k h
 | ptr k off v ht g h =>
  rw [AV.z7Q]
  split
  ·rename_i e;subst e;rw [h b h0];exact hrow off
  ·exact .ptr k off v ht g fun b' hb=>h b' (h1 k _ hb).2
 | rptr k n i off v ht g h =>
  rw [AV.z8Y]
  split
  ·exact .zA _
  ·exact .rptr k n i off v ht g fun b' l c hb=>h b' l c (h1 k _ hb).2
 | own k v ht g h =>
  rw [AV.z8j]
  split
  ·exact .zA _
  ·exact .own k v ht g fun u hu=>h u (h1 k _ hu).2
 | suf k n j v ht g h =>
  rw [AV.dat_suf]
  split
  ·exact .zA _
  ·exact .suf k n j v ht g fun b' l c hb=>h b' l c (h1 k _ hb).2
 | pre k j v ht g h =>
  rw [AV.dat_pre]
  split
  ·exact .zA _
  ·exact .pre k j v ht g fun b' l c hb=>h b' l c (h1 k _ hb).2
 | fn f caps vs hlen _ ih =>
  rw [AV.dat_fn]
  refine .fn f _ vs (by simpa using hlen) fun j x hx=>?_
  simp only [List.getElem?_map,Option.map_eq_some_iff] at hx
  obtain ⟨c,hc,rfl⟩:=hx
  exact ih j c hc
 | agg cs vs hlen _ g1 ih =>
  rw [AV.dat_agg]
  refine .agg _ vs (by simpa using hlen) (fun j x hx=>?_) g1
  simp only [List.getElem?_map,Option.map_eq_some_iff] at hx
  obtain ⟨c,hc,rfl⟩:=hx
  exact ih j c hc
 | tup cs vs hlen _ ih =>
  rw [AV.dat_tup]
  refine .tup _ vs (by simpa using hlen) fun j x hx=>?_
  simp only [List.getElem?_map,Option.map_eq_some_iff] at hx
  obtain ⟨c,hc,rfl⟩:=hx
  exact ih j c hc
 | cap0 a h=>rw [AV.z95];exact .cap0 a fun x hx=>⟨(h x hx).1,fun hd=>(h x hx).2.1 (hD _ hd),(h x hx).2.2⟩
 | zA v=>rw [AV.z9u];exact .zA v
def AO.dat (t:Nat) (row:List PV):AO→AO
 | .boxP pin ty cs => .boxP pin ty (cs.map (AV.dat t row))
 | .row e n rows => .row e n rows
 | .map pin P k n f => .map pin P k n f
 | .raw u ob => .raw u ob
 | .lrec l sp fr => .lrec l sp (fr.map fun p=>(p.1,AV.dat t row p.2))
 | .amap P k n f q => .amap P k n (fun l=>(f l).map (AV.dat t row)) q
 | .arow e cs => .arow e (cs.map (AV.dat t row))
theorem zk.dat (s:ASt) (t:Nat) (pin:Option Nat) (ty:TypeId) (row:List PV) (hlk:s.hp.lookup t=some (.boxP pin ty (row.map .p))):zk s { s with fr:=s.fr.map fun p=>(p.1,p.2.dat t row),hp:=(s.hp.filter fun p=>p.1 != t).map fun p=>(p.1,p.2.dat t row) }:=fun L loc a w hr=>by
 obtain ⟨htN,u,hu,b,arr,rfl,q1,q2,q3,q4,q5⟩:=hr.hp.at' t _ hlk
 let loc' : Nat→Option Value:=fun k=>if k=t then none else loc k
 have l1 : ∀ k u,loc' k=some u→k ≠ t∧loc k=some u:=fun k u h=>by
  simp only [loc'] at h
  split at h
  ·cases h
  ·rename_i e;exact ⟨e,h⟩
 have hD : ∀ M:Nat→Prop,∀ k,Dm M loc' k→Dm M loc k:=fun M k h=>h.imp id fun ⟨k',z,h1,h2⟩=>⟨k',z,(l1 k' z h1).2,h2⟩
 have hnb : ¬ Dm L loc' b:=fun h=>by
  rcases h with h|⟨k,z,h1,h2⟩
  ·exact hr.hp.notL t _ b hu rfl h
  ·exact (l1 k z h1).1 (hr.hp.apart k t z _ b (l1 k z h1).2 hu h2 rfl)
 have hrow : ∀ j,AR s.N (Dm L loc') loc' w (.elt row j) (.pointer (some ⟨b,j,none⟩)):=fun j=>by
  have:=AR.elt (N:=s.N) (D:=Dm L loc') (loc:=loc') (w:=w) row j b 0 (fun i=>arr.getD i undef) (Array.getElem?_eq_some_iff.1 q1).1 hnb (fun i x hx=>by
   have hlt:=(List.getElem?_eq_some_iff.1 hx).1
   have hsz:i<arr.size:=by rw [q2];simpa using hlt
   rw [z15 q1,Array.getD_eq_getD_getElem?,Nat.zero_add,Array.getElem?_eq_getElem hsz];rfl) (fun i x hx=>by
   have h5:=q3 i (.p x) (by simp [hx])
   cases h5 with
   | p _ _ h6=>exact h6.mono (Kp.refl _ _) fun k _ h=>hD L k h)
  rwa [Nat.zero_add] at this
 have har : ∀ {x:AV} {v:Value},AR s.N (Dm L loc) loc w x v→AR s.N (Dm L loc') loc' w (x.dat t row) v:=fun h=>h.dat (hD L) hu l1 hrow
 refine ⟨loc',⟨hr.defers,hr.size,fun k _=>?_,⟨fun k ob ho=>?_,fun k ho=>?_,fun k k' z z' b h1 h2=>hr.hp.apart k k' z z' b (l1 k z h1).2 (l1 k' z' h2).2,hr.hp.inL,fun k z b h1=>hr.hp.notL k z b (l1 k z h1).2⟩⟩,⟨Kp.refl _ _,fun b h => .inl (hD _ b h)⟩⟩
 ·show AR _ _ _ _ (((List.lookup k (s.fr.map _))).getD .zA) _
  rw [zI]
  have h1:=hr.fr k trivial
  unfold ASt.get at h1
  cases hk:s.fr.lookup k with
  | none=>exact .zA _
  | some x=>rw [hk] at h1;exact har h1
 ·change List.lookup k ((s.hp.filter _).map _)=some ob at ho
  rw [zI,qz] at ho
  split at ho
  ·cases ho
  ·rename_i ek
   obtain ⟨o',h1,rfl⟩:=Option.map_eq_some_iff.1 ho
   obtain ⟨h2,z,h3,h4⟩:=hr.hp.at' k o' h1
   refine ⟨h2,z,by simp [loc',ek,h3],?_⟩
   cases o' with
   | boxP pin ty cs =>
    obtain ⟨b,arr,rfl,q1,q2,q3,q4⟩:=h4
    refine ⟨b,arr,rfl,q1,by simpa [AO.dat] using q2,fun j x hx=>?_,q4⟩
    simp only [List.getElem?_map,Option.map_eq_some_iff] at hx
    obtain ⟨c,hc,rfl⟩:=hx
    exact har (q3 j c hc)
   | row e' n' rows' =>
    obtain ⟨fl,q1,q2,q3,q4⟩:=h4
    exact ⟨fl,q1,q2,fun i r j x h1 h2=>let ⟨v,h5,h6⟩:=q3 i r j x h1 h2;⟨v,h5,h6.mono (Kp.refl _ _) fun k _ h=>hD L k h⟩,q4⟩
   | map pin P k n f=>exact h4
   | arow e cs =>
    obtain ⟨fl,q1,q3,q4⟩:=h4
    refine ⟨fl,by rw [List.length_map];exact q1,fun j x hx=>?_,q4⟩
    simp only [List.getElem?_map,Option.map_eq_some_iff] at hx
    obtain ⟨c,hc,rfl⟩:=hx
    obtain ⟨v,h5,h6⟩:=q3 j c hc
    exact ⟨v,h5,har h6⟩
   | raw u ob=>exact h4
   | amap P k n f q =>
    obtain ⟨b,DD,g,rfl,q1,q2,q3,q5⟩:=h4
    refine ⟨b,DD,g,rfl,q1,q2,fun kl=>⟨fun x hx=>?_,fun hx=>(q3 kl).2 (by simpa using hx)⟩,q5⟩
    obtain ⟨x',hx',rfl⟩:=Option.map_eq_some_iff.1 hx
    obtain ⟨v,k1,k2⟩:=(q3 kl).1 x' hx'
    exact ⟨v,k1,har k2⟩
   | lrec l sp fr =>
    obtain ⟨rfl,tmps,q1,q2,q3⟩:=h4
    refine ⟨rfl,tmps,q1,q2,fun i=>?_⟩
    rw [zI]
    have h5:=q3 i
    cases hf:fr.lookup i with
    | none=>exact .zA _
    | some x=>rw [hf] at h5;exact har h5
 ·change List.lookup k ((s.hp.filter _).map _)=none at ho
  rw [zI,qz] at ho
  simp only [loc']
  split
  ·rfl
  ·rename_i ek
   rw [if_neg ek] at ho
   exact hr.hp.dead k (by simpa using ho)
end Go.Proofs.YtdlgoofjechocaaGreatDoor
