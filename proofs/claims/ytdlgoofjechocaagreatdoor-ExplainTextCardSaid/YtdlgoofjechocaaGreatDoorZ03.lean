/- Texts Ar, As, Ai, Rd. -/
import Derived.Maps.RangeRun
import Derived.Carry
import Derived.Test.YtdlgoofjechocaaGreatDoorZ02
set_option maxHeartbeats 32000000
set_option maxRecDepth 100000
set_option linter.unusedSimpArgs false
set_option linter.unusedVariables false
namespace Go.Proofs.YtdlgoofjechocaaGreatDoor
open Go.RowKit Go.Sort Go.Maps Go.ChangeMaps Go.MapKept Go.WideShapes
open Go.WideElems (Fit rd rg pl rd_key rd_val rg_of other_key)
def z3b (P:Program) (o:Oper) (s:ASt) (K:ASt→Prop):Prop := ∀ L loc a w,Rel All L s loc a w→o.wp P a w (fun a' w' => ∃ s' loc',K s' ∧ Rel All L s' loc' a' w' ∧ Ext loc w loc' w') (fun _ _ _=>False)
theorem TL.effG {P:Program} {ops:Array Oper} {Q:Exit→ASt→Prop} {rest:List Oper} {o:Oper} {s:ASt} (hw:z3D ops o s) (h:z3b P o s (TL P ops Q rest)):TL P ops Q (o :: rest) s:=fun L loc a w hr=>by
 unfold wpList
 rw [hw.spec (hr.sub fun _ _=>trivial),if_pos rfl]
 refine .inl (z2D (fun a' w' ⟨s',loc',h0,h1,h2⟩=>?_) (fun _ _ _ h=>h.elim) (h L loc a w hr))
 exact z0s (fun _ _ _ k=>k.ext h2) rest a' w' (h0 L loc' a' w' h1)
def z6O:List AV→Option (List Value)
 | []=>some []
 | .p (.val v) :: r=>(z6O r).map (v :: ·)
 | _=>none
def aval:AV→Option Value
 | .p (.val v)=>some v
 | .agg cs=>(z6O cs).map fun l => .agg l.toArray
 | _=>none
theorem z5W {N:Nat} {D:Nat→Prop} {loc:Nat→Option Value} {w:World} : ∀ {cs:List AV} {l vs:List Value},z6O cs=some l→vs.length=cs.length→(∀ (j:Nat) x v,cs[j]? = some x→vs[j]? = some v→AR N D loc w x v)→vs=l
 | [],l,vs,h,hl,_=>by cases h;exact List.eq_nil_of_length_eq_zero hl
 | c :: cs,l,vs,h,hl,ha=>by
  cases vs with
  | nil=>cases hl
  | cons v vs =>
   cases c with
   | p x =>
    cases x with
    | val v' =>
     simp only [z6O] at h
     obtain ⟨l',h1,rfl⟩:=Option.map_eq_some_iff.1 h
     have e1:v=v':=(ha 0 _ v rfl rfl).val
     have e2:=z5W (vs:=vs) h1 (by simpa using hl) fun j x u hx hu=>ha (j+1) x u (by simpa using hx) (by simpa using hu)
     rw [e1,e2]
    | seq n rows=>simp [z6O] at h
   | _=>simp [z6O] at h
theorem AR.aval {N:Nat} {D:Nat→Prop} {loc:Nat→Option Value} {w:World} {x:AV} {u v:Value} (h:AR N D loc w x v) (hx:aval x=some u):v=u:=by
 unfold Go.Proofs.YtdlgoofjechocaaGreatDoor.aval at hx
 split at hx
 ·cases hx;exact h.val
 ·rename_i cs
  obtain ⟨l,hl,rfl⟩:=Option.map_eq_some_iff.1 hx
  cases h with
  | agg _ vs hvl hva h1 =>
  have:=z5W (vs:=vs.toList) hl (by simpa using hvl) fun j x v hx hv=>by
   have h5:=hva j x hx
   have h6:vs[j]? = some v:=by simpa using hv
   rw [Array.getD_eq_getD_getElem?,h6] at h5
   exact h5
  rw [← this]
 ·cases hx
def z18 (P:Program) (t:TypeId):Option (TypeId × TypeId × Value):=match P.underlying t with
 | some (.map k e)=>match (P.info? e).bind (·.zero) with
  | some z=>some (k,e,z)
  | none=>none
 | _=>none
theorem z1D {P:Program} {t k e:TypeId} {z:Value} (h:z18 P t=some (k,e,z)):P.underlying t=some (.map k e) ∧ ∀ w,(zeroValue e).run P w = .ok z w:=by
 unfold z18 at h
 split at h
 ·rename_i k' e' hu
  split at h
  ·rename_i z' hz
   cases h
   obtain ⟨i,hi,hiz⟩:=Option.bind_eq_some_iff.1 hz
   exact ⟨hu,fun w=>by simp [zeroValue,typeInfo,hi,hiz]⟩
  ·cases h
 ·cases h
noncomputable def updF (f:Lit→Option Value) (kl:Lit) (x:Option Value):Lit→Option Value:=open Classical in fun l=>if l=kl then x else f l
theorem z2A (f:Lit→Option Value) (kl:Lit) (x:Option Value):updF f kl x kl=x:=by simp [updF]
theorem z2s (f:Lit→Option Value) {kl l:Lit} (x:Option Value) (h:l ≠ kl):updF f kl x l=f l:=by simp [updF,h]
theorem z3Q.empty:z3Q (.map []) (fun _=>none):=fun kl _ z=>atKey_of_not_has rfl z
theorem z3Q.has {D:DataW Value} {f:Lit→Option Value} (h:z3Q D f) {kl:Lit} (hk:WideAt.IsKeyLit kl):Maps.has D kl=(f kl).isSome:=by
 have h1:=h kl hk
 cases hf:f kl with
 | none=>rw [hf] at h1;exact has_false_of_atKey h1
 | some v=>rw [hf] at h1;exact has_true_of_atKey h1
theorem z3Q.put {D:DataW Value} {f:Lit→Option Value} (h:z3Q D f) (hD:IsMap D) {kl:Lit} (hk:WideAt.IsKeyLit kl) (v:Value):z3Q (D.put kl (.held v)) (updF f kl (some v)):=fun l hl z=>by
 by_cases e:l=kl
 ·subst e;rw [z2A];exact atKey_put_same hD hk _ z
 ·rw [z2s _ _ e,atKey_put_other e];exact h l hl z
theorem z3Q.del {D:DataW Value} {f:Lit→Option Value} (h:z3Q D f) (kl:Lit):z3Q (D.del kl) (updF f kl none):=fun l hl z=>by
 by_cases e:l=kl
 ·subst e;rw [z2A];exact atKey_del_same z
 ·rw [z2s _ _ e,atKey_del_other e];exact h l hl z
section
variable {P:Program} {ops:Array Oper} {o:Oper} {s:ASt}
theorem z9O (t k e:TypeId) (z:Value) (h:o.op = .makeMap t none) (ht:z18 P t=some (k,e,z)) (hd : ∀ t,o.dst=some t→t<s.n):z1t P o s ((s.add (.map none P k 0 fun _=>none)).put o.dst (.own s.N)):=fun L loc a w hr=>by
 have hb:Blw w.heap.size w (w.alloc (.map #[] 0)):=(Blw.refl _ _).alloc (Nat.le_refl _) _
 have hu : ∀ b,zP (.map (some w.heap.size))=some b→w.heap.size≤b:=fun b e=>by cases e;exact Nat.le_refl _
 unfold Oper.wp
 have he:(execOp a.eval o).run P w = .ok (.value (.map (some w.heap.size))) (w.alloc (.map #[] 0)):=by simp [execOp,h,run_makeMap]
 rw [he]
 refine ⟨zO loc s.N (.map (some w.heap.size)),?_,.add hb _ _ hu⟩
 refine (hr.add hb _ (.map none P k 0 fun _=>none) hu ⟨w.heap.size,.map [],rfl,World.ownsMap_made w P k z3u,z3Q.empty,fun p e=>by cases e⟩).put' hd (.own s.N _ (Nat.lt_succ_self _) rfl fun z hz=>?_)
 rw [zG] at hz;cases hz;rfl
theorem z0B {X:Nat→Prop} {L:Lim} {loc:Nat→Option Value} {a:Act} {w:World} (hr:Rel X L s loc a w) {x:Operand} (hX : ∀ t,x = .tmp t→X t) {tag:Nat} {ob:AO} (hx:s.ev x = .own tag) (hlk:s.hp.lookup tag=some ob):tag<s.N ∧ ∃ u,loc tag=some u∧a.eval x=u∧OR s.N (Dm L loc) loc w u ob:=by
 have h1:=hr.ev x hX
 rw [hx] at h1
 obtain ⟨htN,u,hu,hor⟩:=hr.hp.at' tag _ hlk
 generalize a.eval x=ax at h1
 cases h1 with
 | own _ _ _ _ hv=>exact ⟨htN,u,hu,hv u hu,hor⟩
theorem z7x (t:TypeId) (x i:Operand) (ok:Bool) (tag n:Nat) (pin:Option Nat) (k e:TypeId) (z key:Value) (kl:Lit) (f:Lit→Option Value) (h:o.op = .lookup t x i ok) (ht:z18 P t=some (k,e,z)) (hx:s.ev x = .own tag) (hlk:s.hp.lookup tag=some (.map pin P k n f))
  (K:Keyed P k) (hi:aval (s.ev i)=some key) (hk:keyOf P k key=some kl):zX P ops o s (if ok then .tup [cv ((f kl).getD z),.p (.val (.bool (f kl).isSome))] else cv ((f kl).getD z)) := .pure fun L loc a w hr=>by
 obtain ⟨_,u,hu,hax,b,D,rfl,hown,hmk,_⟩:=z0B hr (zD (by simp [h,Op.operands])) hx hlk
 have hiv:=(hr.ev i (zD (by simp [h,Op.operands]))).aval hi
 obtain ⟨hty,hz⟩:=z1D ht
 have hD:=hmk kl (K.key hk) (.held z)
 have hval : ∀ {v:Value} {ps:List MemPlace},z3u v=some (D.atKey kl (.held z),ps)→v=(f kl).getD z:=fun {v ps} hv=>by
  simp only [z3u,Option.some.injEq,Prod.mk.injEq] at hv
  rw [hD] at hv
  cases hf:f kl with
  | none=>rw [hf] at hv;simpa using hv.1
  | some y=>rw [hf] at hv;simpa using hv.1
 cases ok with
 | false =>
  obtain ⟨v,ps,hrun,hv⟩:=hown.lookup K hty (hz w) (zd := .held z) (zp := []) rfl hk
  obtain rfl:=hval hv
  exact ⟨_,by simp [execOp,h,hax,hiv,hrun],z6P _ _ _ _ _⟩
 | true =>
  obtain ⟨v,ps,hrun,hv⟩:=hown.look_ok K hty (hz w) (zd := .held z) (zp := []) rfl hk
  obtain rfl:=hval hv
  rw [hmk.has (K.key hk)] at hrun
  refine ⟨_,by simp [execOp,h,hax,hiv,hrun];rfl,.tup _ _ rfl fun j x hj=>?_⟩
  match j,hj with
  | 0,hj=>cases hj;exact z6P _ _ _ _ _
  | 1,hj=>cases hj;exact .zV _ rfl
theorem z1p {w w' : World} {b:Nat} (h:w.mapTurned w' b):Kp (fun k=>k=b) w w' :=
 let g:=h.grown;⟨g.os,g.tape,g.output,g.size,fun k hk hn=>g.block k hk (fun e=>hn (by cases e;rfl))⟩
theorem z7s (t:TypeId) (x i y:Operand) (tag n:Nat) (pin:Option Nat) (k e:TypeId) (z key val:Value) (kl:Lit) (f:Lit→Option Value) (h:o.op = .mapUpdate t x i y) (ht:z18 P t=some (k,e,z)) (hx:s.ev x = .own tag) (hlk:s.hp.lookup tag=some (.map pin P k n f))
  (K:Keyed P k) (hi:aval (s.ev i)=some key) (hk:keyOf P k key=some kl) (hy:aval (s.ev y)=some val) (hn:n<maxLen) (hd:o.dst=none):z1t P o s { s with hp:=zF s.hp tag (.map pin P k (n+1) (updF f kl (some val))) }:=fun L loc a w hr=>by
 obtain ⟨_,u,hu,hax,b,D,rfl,hown,hmk,hpin⟩:=z0B hr (fun _ _=>trivial) hx hlk
 have hiv:=(hr.ev i (fun _ _=>trivial)).aval hi
 have hyv:=(hr.ev y (fun _ _=>trivial)).aval hy
 obtain ⟨hty,hz⟩:=z1D ht
 obtain ⟨w',hrun,hown',htn⟩:=hown.store K hty hn (val:=val) (d := .held val) (ps := []) hk rfl
 unfold Oper.wp
 have he:(execOp a.eval o).run P w = .ok .skip w':=by simp [execOp,h,hax,hiv,hyv,hrun]
 rw [he]
 simp only [Oper.upon,hd]
 exact ⟨loc,hr.turn hlk hu rfl (z1p htn) ⟨b,_,rfl,hown',hmk.put hown.isMap (K.key hk) val,hpin⟩,.turn hu rfl (z1p htn)⟩
theorem op_delete (t k' : TypeId) (x i:Operand) (tag n:Nat) (pin:Option Nat) (k e:TypeId) (z key:Value) (kl:Lit) (f:Lit→Option Value) (h:o.op = .call { callee := .builtin .delete,args := #[x,i],argTypes := #[t,k'] }) (hkk:k' = k) (ht:z18 P t=some (k,e,z)) (hx:s.ev x = .own tag) (hlk:s.hp.lookup tag=some (.map pin P k n f))
  (K:Keyed P k) (hi:aval (s.ev i)=some key) (hk:keyOf P k key=some kl) (hd : ∀ t,o.dst=some t→t<s.n):z1t P o s (ASt.put { s with hp:=zF s.hp tag (.map pin P k n (updF f kl none)) } o.dst (.tup [])):=fun L loc a w hr=>by
 subst hkk
 obtain ⟨_,u,hu,hax,b,D,rfl,hown,hmk,hpin⟩:=z0B hr (fun _ _=>trivial) hx hlk
 have hiv:=(hr.ev i (fun _ _=>trivial)).aval hi
 obtain ⟨hty,hz⟩:=z1D ht
 obtain ⟨w',hrun,hown',htn⟩:=hown.drop K hty hk o.type
 unfold Oper.wp
 have he:(execOp a.eval o).run P w = .ok (.value (.tuple #[])) w':=by
  simp only [execOp,h,resolve,invoke,builtin,Sem.run_bind,Sem.run_pure,Result.andThen_ok,List.map_toArray,List.map_cons,List.map_nil,hax,hiv,hrun]
 rw [he]
 refine ⟨loc,Rel.put' (s := { s with hp:=zF s.hp tag (.map pin P k' n (updF f kl none)) }) (hr.turn hlk hu rfl (z1p htn) ⟨b,_,rfl,hown',hmk.del kl,hpin⟩) hd ?_,.turn hu rfl (z1p htn)⟩
 exact .tup [] #[] rfl (fun j x hx=>by simp at hx)
noncomputable def updA (f:Lit→Option AV) (kl:Lit) (x:Option AV):Lit→Option AV:=open Classical in fun l=>if l=kl then x else f l
theorem z2a (f:Lit→Option AV) (kl:Lit) (x:Option AV):updA f kl x kl=x:=by simp [updA]
theorem z4d (f:Lit→Option AV) {kl l:Lit} (x:Option AV) (h:l ≠ kl):updA f kl x l=f l:=by simp [updA,h]
theorem z9Q (t:TypeId) (x i:Operand) (ok:Bool) (tag n:Nat) (k e:TypeId) (z key:Value) (kl:Lit) (f:Lit→Option AV) (q:Option (Nat × Lit)) (h:o.op = .lookup t x i ok) (ht:z18 P t=some (k,e,z)) (hx:s.ev x = .own tag) (hlk:s.hp.lookup tag=some (.amap P k n f q))
  (K:Keyed P k) (hi:aval (s.ev i)=some key) (hk:keyOf P k key=some kl):zX P ops o s (if ok then .tup [(f kl).getD (cv z),.p (.val (.bool (f kl).isSome))] else (f kl).getD (cv z)) := .pure fun L loc a w hr=>by
 obtain ⟨_,u,hu,hax,b,D,g,rfl,hown,hmk,hfg,_⟩:=z0B hr (zD (by simp [h,Op.operands])) hx hlk
 have hiv:=(hr.ev i (zD (by simp [h,Op.operands]))).aval hi
 obtain ⟨hty,hz⟩:=z1D ht
 have hD:=hmk kl (K.key hk) (.held z)
 have hval : ∀ {v:Value} {ps:List MemPlace},z3u v=some (D.atKey kl (.held z),ps)→v=(g kl).getD z:=fun {v ps} hv=>by
  simp only [z3u,Option.some.injEq,Prod.mk.injEq] at hv
  rw [hD] at hv
  cases hf:g kl with
  | none=>rw [hf] at hv;simpa using hv.1
  | some y=>rw [hf] at hv;simpa using hv.1
 have hres:AR s.N (Dm L loc) loc w ((f kl).getD (cv z)) ((g kl).getD z)∧(g kl).isSome=(f kl).isSome:=by
  cases hf:f kl with
  | none=>rw [(hfg kl).2 hf];exact ⟨z6P _ _ _ _ _,rfl⟩
  | some y=>obtain ⟨v,h1,h2⟩:=(hfg kl).1 y hf;rw [h1];exact ⟨h2,rfl⟩
 cases ok with
 | false =>
  obtain ⟨v,ps,hrun,hv⟩:=hown.lookup K hty (hz w) (zd := .held z) (zp := []) rfl hk
  obtain rfl:=hval hv
  exact ⟨_,by simp [execOp,h,hax,hiv,hrun],hres.1⟩
 | true =>
  obtain ⟨v,ps,hrun,hv⟩:=hown.look_ok K hty (hz w) (zd := .held z) (zp := []) rfl hk
  obtain rfl:=hval hv
  rw [hmk.has (K.key hk)] at hrun
  refine ⟨_,by simp [execOp,h,hax,hiv,hrun];rfl,.tup _ _ rfl fun j x hj=>?_⟩
  match j,hj with
  | 0,hj=>cases hj;exact hres.1
  | 1,hj=>cases hj;rw [← hres.2];exact .zV _ rfl
theorem z6g (t:TypeId) (x i y:Operand) (tag n:Nat) (k e:TypeId) (z key:Value) (kl:Lit) (f:Lit→Option AV) (q:Option (Nat × Lit)) (h:o.op = .mapUpdate t x i y) (ht:z18 P t=some (k,e,z)) (hx:s.ev x = .own tag) (hlk:s.hp.lookup tag=some (.amap P k n f q))
  (K:Keyed P k) (hi:aval (s.ev i)=some key) (hk:keyOf P k key=some kl) (hn:n<maxLen) (hd:o.dst=none):z1t P o s { s with hp:=zF s.hp tag (.amap P k (n+1) (updA f kl (some (s.ev y))) none) }:=fun L loc a w hr=>by
 obtain ⟨_,u,hu,hax,b,D,g,rfl,hown,hmk,hfg,_⟩:=z0B hr (fun _ _=>trivial) hx hlk
 have hiv:=(hr.ev i (fun _ _=>trivial)).aval hi
 have hyv:=hr.ev y (fun _ _=>trivial)
 obtain ⟨hty,hz⟩:=z1D ht
 obtain ⟨w',hrun,hown',htn⟩:=hown.store K hty hn (val:=a.eval y) (d := .held (a.eval y)) (ps := []) hk rfl
 unfold Oper.wp
 have he:(execOp a.eval o).run P w = .ok .skip w':=by simp [execOp,h,hax,hiv,hrun]
 rw [he]
 simp only [Oper.upon,hd]
 have hkp:=z1p htn
 have hDb : ∀ k,(fun k=>k=b) k→Dm L loc k:=fun k e => .inr ⟨tag,_,hu,by rw [show k=b from e];rfl⟩
 have hmono : ∀ {x:AV} {v:Value},AR s.N (Dm L loc) loc w x v→AR s.N (Dm L loc) loc w' x v:=fun h=>h.mono (Nat.le_refl _) (hkp.wide hDb) (fun _ _ h=>h) (fun _ _ _ h=>h)
 refine ⟨loc,hr.turn hlk hu rfl hkp ⟨b,_,updF g kl (some (a.eval y)),rfl,hown',hmk.put hown.isMap (K.key hk) _,fun l=>⟨fun x hx=>?_,fun hx=>?_⟩,trivial⟩,.turn hu rfl hkp⟩
 ·by_cases e:l=kl
  ·subst e
   rw [z2a] at hx
   cases hx
   exact ⟨_,z2A _ _ _,hmono hyv⟩
  ·rw [z4d _ _ e] at hx
   obtain ⟨v,h1,h2⟩:=(hfg l).1 x hx
   exact ⟨v,by rw [z2s _ _ e,h1],hmono h2⟩
 ·by_cases e:l=kl
  ·subst e;rw [z2a] at hx;cases hx
  ·rw [z4d _ _ e] at hx;rw [z2s _ _ e];exact (hfg l).2 hx
abbrev lefts (es:Array MapEntry) (seen:Array Nat):Array MapEntry:=leftOf es seen
def z4R (P:Program) (k:TypeId) (n:Nat) (f:Lit→Option Value) (es:Array MapEntry) (ck:Nat):Prop :=
 Fit (H:=Value) P k z3u es ck∧es.size≤n∧z3Q (.map ((es.toList.map (rg P k z3u)).foldr DataW.insert [])) f
theorem z4R.born {k:TypeId} {n:Nat} {f:Lit→Option Value} {es:Array MapEntry} {ck:Nat} (h:z4R P k n f es ck) : ∀ x ∈ es.toList,x.born<ck:=h.1.stamped.1
theorem z4R.entry {k:TypeId} {n:Nat} {f:Lit→Option Value} {es:Array MapEntry} {ck:Nat} (h:z4R P k n f es ck) (K:Keyed P k) {e:MapEntry} (he:e ∈ es.toList) : ∃ kl,keyOf P k e.key=some kl∧f kl=some e.val:=by
 obtain ⟨F,hs,hm⟩:=h
 obtain ⟨y,hy⟩:=F.reads e he
 obtain ⟨z,hz,hzd⟩:=rd_val hy
 have hkey:=rd_key hy
 refine ⟨y.1,hkey,?_⟩
 have hrg:(rg P k z3u e).1=y.1:=by rw [rg_of hy]
 have hat : ∀ zd,DataW.atKey (.map ((es.toList.map (rg P k z3u)).foldr DataW.insert [])) y.1 zd=z.1:=fun zd=>by
  rw [(atKey_sorted (es.toList.map (rg P k z3u)) (Maps.fit_rising K F) y.1 (K.key hkey)).2 (rg P k z3u e) (List.mem_map.2 ⟨e,he,rfl⟩) hrg,rg_of hy,hzd]
 cases hz
 have h1:=hm y.1 (K.key hkey) (.held default)
 have h2:=hm y.1 (K.key hkey) .nil
 rw [hat] at h1 h2
 cases hf:f y.1 with
 | none=>rw [hf] at h2;cases h2
 | some v=>rw [hf] at h1;cases h1;rfl
theorem z4R.mem {k:TypeId} {n:Nat} {f:Lit→Option Value} {es:Array MapEntry} {ck:Nat} (h:z4R P k n f es ck) (K:Keyed P k) {kl:Lit} (hk:WideAt.IsKeyLit kl) {v:Value} (hf:f kl=some v) : ∃ e ∈ es.toList,keyOf P k e.key=some kl∧e.val=v:=by
 have hh:=h.2.2.has hk
 rw [hf] at hh
 obtain ⟨p,hp,hpk⟩:=List.any_eq_true.1 hh
 obtain ⟨x,hx,rfl⟩:=List.mem_map.1 (mem_sorted.1 hp)
 obtain ⟨y,hy⟩:=h.1.reads x hx
 have e1:(rg P k z3u x).1=kl:=WideAt.sameKey_eq hpk
 rw [rg_of hy] at e1
 have e2:=rd_key hy
 rw [e1] at e2
 obtain ⟨kl',h1,h2⟩:=h.entry K hx
 rw [e2] at h1
 cases h1
 rw [hf] at h2
 cases h2
 exact ⟨x,hx,e2,rfl⟩
theorem z8o {l:List MapEntry} (hn:(l.map (·.born)).Nodup) {j:Nat} {e0:MapEntry} (h:l[j]? = some e0):l.findIdx? (fun e=>((e.born:Nat):Int)==((e0.born:Nat):Int))=some j:=by
 rw [List.findIdx?_eq_some_iff_getElem]
 obtain ⟨hj,rfl⟩:=List.getElem?_eq_some_iff.1 h
 refine ⟨hj,by simp,fun i hi=>?_⟩
 simp only [beq_iff_eq,Int.natCast_inj,Bool.not_eq_true,beq_eq_false_iff_ne,ne_eq]
 intro e
 have a1:(l.map (·.born))[i]? = some l[j].born:=by rw [List.getElem?_map,List.getElem?_eq_getElem (by omega),← e];rfl
 have a2:(l.map (·.born))[j]? = some l[j].born:=by rw [List.getElem?_map,List.getElem?_eq_getElem hj];rfl
 have:=(List.getElem?_inj (List.getElem?_eq_some_iff.1 a1).1 hn).1 (a1.trans a2.symm)
 omega
theorem z7w {α:Type} (l:List α) (j:Nat) (a : α) (h:l[j]? = some a):l.set j a=l:=by
 apply List.ext_getElem?
 intro i
 rw [List.getElem?_set]
 split
 ·rename_i e;subst e;rw [if_pos (List.getElem?_eq_some_iff.1 h).1,h]
 ·rfl
theorem z7l {P:Program} {k:TypeId} (K:Keyed P k) {n:Nat} {g:Lit→Option Value} {es:Array MapEntry} {ck:Nat} (hm:z4R P k n g es ck) (w:World) {key:Value} {kl:Lit} (hk:keyOf P k key=some kl) :
  ((Instr.findKey k key es.toList).run P w = .ok none w∧g kl=none) ∨ ∃ (j:Nat) (e:MapEntry),(Instr.findKey k key es.toList).run P w = .ok (some (j,e.val)) w∧es.toList[j]? = some e∧e.key=key∧g kl=some e.val:=by
 have hkeys : ∀ e ∈ es.toList,∃ l,keyOf P k e.key=some l:=fun e he=>let ⟨l,h,_⟩:=hm.entry K he;⟨l,h⟩
 rcases K.find w hk es.toList hkeys with ⟨h1,h2⟩|⟨j,e0,h1,h2,h3⟩
 ·refine .inl ⟨h1,?_⟩
  cases hg:g kl with
  | none=>rfl
  | some v =>
   obtain ⟨e,he,h3,_⟩:=hm.mem K (K.key hk) hg
   exact absurd (K.inj h3 hk) (h2 e he)
 ·refine .inr ⟨j,e0,h1,h2,h3,?_⟩
  obtain ⟨kl',h4,h5⟩:=hm.entry K (List.mem_of_getElem? h2)
  rw [h3,hk] at h4
  cases h4
  exact h5
theorem z8v (t:TypeId) (x i:Operand) (tag n:Nat) (k e:TypeId) (z key:Value) (kl:Lit) (f:Lit→Option AV) (q:Option (Nat × Lit)) {K0:ASt→Prop} (h:o.op = .mapEntry t x i) (ht:z18 P t=some (k,e,z)) (hx:s.ev x = .own tag) (hlk:s.hp.lookup tag=some (.amap P k n f q))
  (K:Keyed P k) (hi:aval (s.ev i)=some key) (hk:keyOf P k key=some kl) (hn:n<maxLen) (hd : ∀ t,o.dst=some t→t<s.n)
  (hK0 : ∀ st:Nat,K0 (ASt.put { s with hp:=zF s.hp tag (.amap P k (n+1) (updA f kl (some ((f kl).getD (cv z)))) (some (st,kl))) } o.dst (.tup [(f kl).getD (cv z),.p (.val (.int .i64 (st:Int)))]))):z3b P o s K0:=fun L loc a w hr=>by
 obtain ⟨_,u,hu,hax,b,D,g,rfl,hown,hmk,hfg,_⟩:=z0B hr (fun _ _=>trivial) hx hlk
 have hiv:=(hr.ev i (fun _ _=>trivial)).aval hi
 obtain ⟨hty,hz⟩:=z1D ht
 have hown0:=hown
 obtain ⟨es,ck,hb,F,hs,rfl⟩:=hown
 have hmi:z4R P k n g es ck:=⟨F,hs,hmk⟩
 have key2 : ∃ (v0:Value) (st:Nat) (w' : World),v0=(g kl).getD z∧(Instr.mapEntry t (.map (some b)) key).run P w = .ok (.tuple #[v0,goInt st]) w' ∧ (Instr.mapUpdate t (.map (some b)) key v0).run P w = .ok () w' ∧
   ∃ es1 ck1 e1,w'.heap[b]? = some (.map es1 ck1)∧e1 ∈ es1.toList∧e1.born=st∧keyOf P k e1.key=some kl:=by
  rcases z7l K hmi w hk with ⟨h1,h2⟩|⟨j,e0,h1,h2,h3,h4⟩
  ·refine ⟨z,ck,setBlock w b (.map (es.push ⟨key,z,ck⟩) (ck+1)),by rw [h2];rfl,?_,?_,es.push ⟨key,z,ck⟩,ck+1,⟨key,z,ck⟩,(heap_set hb).1,by simp,rfl,hk⟩
   ·simp [Instr.mapEntry,run_underlying hty,MapKept.run_getObj_map hb,K.check w false hk,h1,hz,MapKept.run_setObj_map _ hb,Result.andThen,setBlock]
   ·simp [Instr.mapUpdate,run_underlying hty,MapKept.run_getObj_map hb,K.check w false hk,h1,MapKept.run_setObj_map _ hb,Result.andThen,setBlock]
  ·have hj:es[j]? = some e0:=by simpa using h2
   have hsame:es.modify j (fun e => { e with key:=key })=es:=by
    apply Array.ext'
    rw [Array.toList_modify,modify_eq_set _ _ _ _ h2]
    have:({ e0 with key:=key } : MapEntry)=e0:=by rw [← h3]
    rw [this]
    exact z7w _ _ _ h2
   have hsame2:es.modify j (fun e => { e with key:=key,val:=e0.val })=es:=by
    apply Array.ext'
    rw [Array.toList_modify,modify_eq_set _ _ _ _ h2]
    have:({ e0 with key:=key,val:=e0.val } : MapEntry)=e0:=by rw [← h3]
    rw [this]
    exact z7w _ _ _ h2
   refine ⟨e0.val,e0.born,setBlock w b (.map es ck),by rw [h4];rfl,?_,?_,es,ck,e0,(heap_set hb).1,List.mem_of_getElem? h2,rfl,by rw [h3];exact hk⟩
   ·simp [Instr.mapEntry,run_underlying hty,MapKept.run_getObj_map hb,K.check w false hk,h1,hj,h3,K.stays w hk,hsame,MapKept.run_setObj_map _ hb,Result.andThen,setBlock]
   ·simp [Instr.mapUpdate,run_underlying hty,MapKept.run_getObj_map hb,K.check w false hk,h1,hj,h3,K.stays w hk,hsame2,MapKept.run_setObj_map _ hb,Result.andThen,setBlock]
 obtain ⟨v0,st,w',hv0,hrun,hrunU,hpend⟩:=key2
 obtain ⟨w2,hrun2,hown',htn⟩:=hown0.store K hty hn (val:=v0) (d := .held v0) (ps := []) hk rfl
 rw [hrunU] at hrun2
 cases hrun2
 have hkp:=z1p htn
 have hDb : ∀ k,(fun k=>k=b) k→Dm L loc k:=fun k e => .inr ⟨tag,_,hu,by rw [show k=b from e];rfl⟩
 have hmono : ∀ {x:AV} {v:Value},AR s.N (Dm L loc) loc w x v→AR s.N (Dm L loc) loc w' x v:=fun h=>h.mono (Nat.le_refl _) (hkp.wide hDb) (fun _ _ h=>h) (fun _ _ _ h=>h)
 have hres:AR s.N (Dm L loc) loc w ((f kl).getD (cv z)) v0:=by
  rw [hv0]
  cases hf:f kl with
  | none=>rw [(hfg kl).2 hf];exact z6P _ _ _ _ _
  | some y=>obtain ⟨v,h1,h2⟩:=(hfg kl).1 y hf;rw [h1];exact h2
 unfold Oper.wp
 have he:(execOp a.eval o).run P w = .ok (.value (.tuple #[v0,goInt st])) w':=by simp [execOp,h,hax,hiv,hrun]
 rw [he]
 refine ⟨_,loc,hK0 st,Rel.put' (s := { s with hp:=zF s.hp tag (.amap P k (n+1) (updA f kl (some ((f kl).getD (cv z)))) (some (st,kl))) }) (hr.turn hlk hu rfl hkp ⟨b,_,updF g kl (some v0),rfl,hown',hmk.put hown0.isMap (K.key hk) _,fun l=>⟨fun x hx=>?_,fun hx=>?_⟩,hpend⟩) hd ?_,.turn hu rfl hkp⟩
 ·by_cases e:l=kl
  ·subst e
   rw [z2a] at hx
   cases hx
   exact ⟨_,z2A _ _ _,hmono hres⟩
  ·rw [z4d _ _ e] at hx
   obtain ⟨v,h1,h2⟩:=(hfg l).1 x hx
   exact ⟨v,by rw [z2s _ _ e,h1],hmono h2⟩
 ·by_cases e:l=kl
  ·subst e;rw [z2a] at hx;cases hx
  ·rw [z4d _ _ e] at hx;rw [z2s _ _ e];exact (hfg l).2 hx
 ·refine .tup _ _ rfl fun j x hj=>?_
  match j,hj with
  | 0,hj=>cases hj;exact hmono hres
  | 1,hj=>cases hj;exact .zV _ rfl
theorem z6F (t:TypeId) (x i y:Operand) (tag n st:Nat) (k e:TypeId) (z:Value) (kl:Lit) (f:Lit→Option AV) (h:o.op = .entryStore t x i y) (ht:z18 P t=some (k,e,z)) (hx:s.ev x = .own tag) (hlk:s.hp.lookup tag=some (.amap P k n f (some (st,kl))))
  (K:Keyed P k) (hi:s.ev i = .p (.val (.int .i64 (st:Int)))) (hn:n<maxLen) (hd:o.dst=none):z1t P o s { s with hp:=zF s.hp tag (.amap P k (n+1) (updA f kl (some (s.ev y))) none) }:=fun L loc a w hr=>by
 obtain ⟨_,u,hu,hax,b,D,g,rfl,hown,hmk,hfg,es',ck',e1,hb',he1,hborn,hkey⟩:=z0B hr (fun _ _=>trivial) hx hlk
 have hiv0:=hr.ev i (fun _ _=>trivial)
 rw [hi] at hiv0
 have hiv:=hiv0.val
 have hyv:=hr.ev y (fun _ _=>trivial)
 obtain ⟨hty,hz⟩:=z1D ht
 obtain ⟨w',hrunU,hown',htn⟩:=hown.store K hty hn (val:=a.eval y) (d := .held (a.eval y)) (ps := []) hkey rfl
 obtain ⟨es,ck,hb,F,hs,rfl⟩:=hown
 obtain ⟨rfl,rfl⟩ : es=es' ∧ ck=ck':=by rw [hb] at hb';simpa using hb'
 have hmi:z4R P k n g es ck:=⟨F,hs,hmk⟩
 obtain ⟨s1,s2,s3⟩:=F.stamped
 have hrun:(Instr.entryStore t (.map (some b)) (.int .i64 (st:Int)) (a.eval y)).run P w = .ok () w':=by
  rcases z7l K hmi w hkey with ⟨h1,h2⟩|⟨j,e0,h1,h2,h3,h4⟩
  ·obtain ⟨kl',g1,g2⟩:=hmi.entry K he1
   rw [hkey] at g1;cases g1
   rw [h2] at g2;cases g2
  ·have hj:es[j]? = some e0:=by simpa using h2
   have hbe:e0.born=st:=by
    have:e0=e1:=by
     obtain ⟨i1,hi1⟩:=List.mem_iff_getElem?.1 he1
     have a1:(es.toList.map (·.key))[j]? = some e1.key:=by rw [List.getElem?_map,h2,← h3];rfl
     have a2:(es.toList.map (·.key))[i1]? = some e1.key:=by rw [List.getElem?_map,hi1];rfl
     have:=(List.getElem?_inj (List.getElem?_eq_some_iff.1 a1).1 s3).1 (a1.trans a2.symm)
     subst this
     rw [h2] at hi1
     cases hi1;rfl
    rw [this];exact hborn
   have hidx:es.findIdx? (fun e=>((e.born:Nat):Int)==(st:Int))=some j:=by
    have:=z8o s2 h2
    rw [hbe] at this
    rw [show es.findIdx? (fun e=>((e.born:Nat):Int)==(st:Int))=es.toList.findIdx? (fun e=>((e.born:Nat):Int)==(st:Int)) by cases es;simp]
    exact this
   have hmod:es.modify j (fun e => { e with val:=a.eval y })=es.modify j (fun e' => { e' with key:=e1.key,val:=a.eval y }):=by
    apply Array.ext'
    rw [Array.toList_modify,Array.toList_modify,modify_eq_set _ _ _ _ h2,modify_eq_set _ _ _ _ h2,← h3]
   have hU:(Instr.mapUpdate t (.map (some b)) e1.key (a.eval y)).run P w = .ok () (setBlock w b (.map (es.modify j (fun e' => { e' with key:=e1.key,val:=a.eval y })) ck)):=by
    simp [Instr.mapUpdate,run_underlying hty,MapKept.run_getObj_map hb,K.check w false hkey,h1,hj,h3,K.stays w hkey,MapKept.run_setObj_map _ hb,Result.andThen,setBlock]
   rw [hrunU] at hU
   cases hU
   simp [Instr.entryStore,MapKept.run_getObj_map hb,asInt,asIntOf,hidx,hmod,MapKept.run_setObj_map _ hb,Result.andThen,setBlock]
 unfold Oper.wp
 have he:(execOp a.eval o).run P w = .ok .skip w':=by simp [execOp,h,hax,hiv,hrun]
 rw [he]
 simp only [Oper.upon,hd]
 have hkp:=z1p htn
 have hDb : ∀ k,(fun k=>k=b) k→Dm L loc k:=fun k e => .inr ⟨tag,_,hu,by rw [show k=b from e];rfl⟩
 have hmono : ∀ {x:AV} {v:Value},AR s.N (Dm L loc) loc w x v→AR s.N (Dm L loc) loc w' x v:=fun h=>h.mono (Nat.le_refl _) (hkp.wide hDb) (fun _ _ h=>h) (fun _ _ _ h=>h)
 refine ⟨loc,hr.turn hlk hu rfl hkp ⟨b,_,updF g kl (some (a.eval y)),rfl,hown',hmk.put ⟨_,rfl⟩ (K.key hkey) _,fun l=>⟨fun x hx=>?_,fun hx=>?_⟩,trivial⟩,.turn hu rfl hkp⟩
 ·by_cases e:l=kl
  ·subst e
   rw [z2a] at hx
   cases hx
   exact ⟨_,z2A _ _ _,hmono hyv⟩
  ·rw [z4d _ _ e] at hx
   obtain ⟨v,h1,h2⟩:=(hfg l).1 x hx
   exact ⟨v,by rw [z2s _ _ e,h1],hmono h2⟩
 ·by_cases e:l=kl
  ·subst e;rw [z2a] at hx;cases hx
  ·rw [z4d _ _ e] at hx;rw [z2s _ _ e];exact (hfg l).2 hx
theorem op_range (t:TypeId) (x:Operand) (tag n:Nat) (pin:Option Nat) (k e:TypeId) (z:Value) (f:Lit→Option Value) {K:ASt→Prop} (h:o.op = .range t x) (ht:z18 P t=some (k,e,z)) (hx:s.ev x = .own tag) (hlk:s.hp.lookup tag=some (.map pin P k n f)) (hd : ∀ t,o.dst=some t→t<s.n)
  (hK : ∀ b r es ck,z4R P k n f es ck→K (ASt.put { s with hp:=(s.N,.raw (.pointer (some ⟨r,0,none⟩)) (.mapIter (some b) ck #[] ck)) :: zF s.hp tag (.raw (.map (some b)) (.map es ck)),N:=s.N+1 } o.dst (.own s.N))):z3b P o s K:=fun L loc a w hr=>by
 obtain ⟨_,u,hu,hax,b,D,rfl,⟨es,ck,hb,F,hs,rfl⟩,hmk,hpin⟩:=z0B hr (fun _ _=>trivial) hx hlk
 obtain ⟨hty,hz⟩:=z1D ht
 have hrun:=run_range_map w t k e b es ck hty hb
 have hbl:Blw w.heap.size w (w.alloc (.mapIter (some b) ck #[] ck)):=(Blw.refl _ _).alloc (Nat.le_refl _) _
 have hup : ∀ c,zP (.pointer (some ⟨w.heap.size,0,none⟩))=some c→w.heap.size≤c:=fun c e=>by cases e;exact Nat.le_refl _
 unfold Oper.wp
 have he:(execOp a.eval o).run P w = .ok (.value (.pointer (some ⟨w.heap.size,0,none⟩))) (w.alloc (.mapIter (some b) ck #[] ck)):=by simp [execOp,h,hax,hrun]
 rw [he]
 have r1:Rel All L { s with hp:=zF s.hp tag (.raw (.map (some b)) (.map es ck)) } loc a w:=hr.turn hlk hu rfl (Kp.refl _ _) ⟨b,rfl,rfl,hb⟩
 have r2:=r1.add hbl (.pointer (some ⟨w.heap.size,0,none⟩)) (.raw (.pointer (some ⟨w.heap.size,0,none⟩)) (.mapIter (some b) ck #[] ck)) hup ⟨w.heap.size,rfl,rfl,qD w _ _ rfl⟩
 refine ⟨_,zO loc s.N (.pointer (some ⟨w.heap.size,0,none⟩)),hK b w.heap.size es ck ⟨F,hs,hmk⟩,r2.put' hd (.own s.N _ (Nat.lt_succ_self _) rfl fun z hz=>?_),.add hbl _ _ hup⟩
 rw [zG] at hz;cases hz;rfl
theorem z7S {w w1:World} (hw:w1=w∨w1=w.drew) (r:Nat) {ob0:Obj} (h0:w.heap[r]? = some ob0) (ob:Obj):Kp (fun k=>k=r) w (setBlock w1 r ob):=by
 have h2:=heap_set (o':=ob) h0
 rcases hw with rfl|rfl <;> exact ⟨rfl,rfl,rfl,by simp [setBlock],fun i _ hi=>h2.2 i hi⟩
theorem op_next (x:Operand) (ti tm r b since c0:Nat) (seen:Array Nat) (es:Array MapEntry) (ck:Nat) {K:ASt→Prop} (h:o.op = .next x false) (hx:s.ev x = .own ti) (hlk:s.hp.lookup ti=some (.raw (.pointer (some ⟨r,0,none⟩)) (.mapIter (some b) since seen c0)))
  (hlm:s.hp.lookup tm=some (.raw (.map (some b)) (.map es ck))) (hold : ∀ x ∈ es.toList,x.born<since) (hsc:since≤c0) (hd : ∀ t,o.dst=some t→t<s.n)
  (hK0:(leftOf es seen).size=0→K (s.put o.dst (.tup [.p (.val (.bool false))])))
  (hK1 : ∀ e ∈ (leftOf es seen).toList,K (ASt.put { s with hp:=zF s.hp ti (.raw (.pointer (some ⟨r,0,none⟩)) (.mapIter (some b) since (seen.push e.born) ck)) } o.dst (.tup [.p (.val (.bool true)),cv e.key,cv e.val]))):z3b P o s K:=fun L loc a w hr=>by
 obtain ⟨_,u,hu,hax,r',rfl,hr',hrb⟩:=z0B hr (fun _ _=>trivial) hx hlk
 cases hr'
 obtain ⟨_,um,hum,b',rfl,hb',hbb⟩:=hr.hp.at' tm _ hlm
 cases hb'
 unfold Oper.wp
 have he : ∀ v w',(Instr.next (.pointer (some ⟨r,0,none⟩)) false o.type).run P w = .ok v w' → (execOp a.eval o).run P w = .ok (.value v) w':=fun v w' hv=>by simp [execOp,h,hax,hv]
 rcases run_next_at (P:=P) w o.type r b since c0 seen es ck hrb hbb hold hsc with ⟨h0,hrun⟩|⟨e,hem,w1,hw1,hrun⟩
 ·rw [he _ _ hrun]
  refine ⟨_,loc,hK0 h0,hr.put' hd (.tup _ _ rfl fun j x hj=>?_),Ext.refl _ _⟩
  match j,hj with
  | 0,hj=>cases hj;exact .zV _ rfl
 ·rw [he _ _ hrun]
  have hkp:=z7S hw1 r hrb (.mapIter (some b) since (seen.push e.born) ck)
  have hr1:w1.heap[r]? = some (.mapIter (some b) since seen c0):=by rcases hw1 with rfl|rfl <;> exact hrb
  refine ⟨_,loc,hK1 e hem,Rel.put' (s := { s with hp:=zF s.hp ti (.raw (.pointer (some ⟨r,0,none⟩)) (.mapIter (some b) since (seen.push e.born) ck)) }) (hr.turn hlk hu rfl hkp ⟨r,rfl,rfl,(heap_set (o' := .mapIter (some b) since (seen.push e.born) ck) hr1).1⟩) hd (.tup _ _ rfl fun j x hj=>?_),.turn hu rfl hkp⟩
  match j,hj with
  | 0,hj=>cases hj;exact .zV _ rfl
  | 1,hj=>cases hj;exact z6P _ _ _ _ _
  | 2,hj=>cases hj;exact z6P _ _ _ _ _
theorem op_entry (x:Operand) (ti tm r b since:Nat) (seen:Array Nat) (es:Array MapEntry) (ck:Nat) (e:MapEntry) (h:o.op = .entry x) (hx:s.ev x = .own ti) (hlk:s.hp.lookup ti=some (.raw (.pointer (some ⟨r,0,none⟩)) (.mapIter (some b) since (seen.push e.born) ck)))
  (hlm:s.hp.lookup tm=some (.raw (.map (some b)) (.map es ck))) (hem:e ∈ es.toList) (hn:(es.toList.map (·.born)).Nodup):zX P ops o s (.tup [cv e.key,cv e.val]) := .pure fun L loc a w hr=>by
 obtain ⟨_,u,hu,hax,r',rfl,hr',hrb⟩:=z0B hr (zD (by simp [h,Op.operands])) hx hlk
 cases hr'
 obtain ⟨_,um,hum,b',rfl,hb',hbb⟩:=hr.hp.at' tm _ hlm
 cases hb'
 have hrun:=run_entry_at (P:=P) w r b since seen es ck e hrb hbb hem hn
 refine ⟨_,by simp [execOp,h,hax,hrun];rfl,.tup _ _ rfl fun j x hj=>?_⟩
 match j,hj with
 | 0,hj=>cases hj;exact z6P _ _ _ _ _
 | 1,hj=>cases hj;exact z6P _ _ _ _ _
end
section
variable {P:Program} {ops:Array Oper} {o:Oper} {s:ASt}
theorem z9H (x y:Operand) (ty tag m:Nat) (e n bytes:Nat) (rows ys:List (List PV)) {K:ASt→Prop} (h:o.op = .call { callee := .builtin .append,args := #[x,y],argTypes := #[ty,ty] }) (hx:s.ev x = .suf tag n m) (hlk:s.hp.lookup tag=some (.row e n rows))
  (ht:zW P ty=some (e,n,bytes)) (hy:s.ev y = .p (.seq n ys)) (hys : 0<ys.length) (hm:m≤rows.length) (hr0 : 0<rows.length) (h63:rows.length+ys.length≤maxLen) (hbytes:(rows.length+ys.length)*bytes≤140737488355328) (hd : ∀ t,o.dst=some t→t<s.n)
  (hA:K (ASt.put { s.subst tag .zA with hp:=zF (s.subst tag .zA).hp tag (.row e n (rows++ys)) } o.dst (.suf tag n m))) (hB:K ((s.add (.row e n (rows.drop m++ys))).put o.dst (.own s.N))):z3b P o s K:=fun L loc a w hr=>by
 have h1:=hr.ev x (fun _ _=>trivial)
 have h2:=hr.ev y (fun _ _=>trivial)
 rw [hx] at h1
 rw [hy] at h2
 obtain ⟨htN,u,hu,hor⟩:=hr.hp.at' tag _ hlk
 obtain ⟨flat,hown,hrn,hfl,hone⟩:=hor
 generalize hax:a.eval x=ax at h1
 cases h1 with
 | suf _ _ _ _ _ _ hv =>
 generalize hay:a.eval y=ay at h2
 cases h2 with
 | p _ _ hp =>
 obtain ⟨i,z,hu',hi,hz,hsz,hby,hzs,hn0⟩:=(z0A ht).h
 have hown1:=hown
 rcases hown1.2 with ⟨_,h0⟩|⟨g,cap,cur,rfl,_,hgc,hle,hmx,hcs,htk⟩
 ·omega
 obtain ⟨oo,rfl,hoo⟩:=hv _ _ _ hu
 obtain ⟨ad,c,news,rfl,hnil,hlen,hcell,hone',hyn0,hpr0⟩:=hp.flat
 cases ad with
 | none=>obtain ⟨_,rfl⟩:=hnil rfl;simp at hys
 | some ay =>
 have hfl0:flat.length=rows.length*n:=hown.1
 by_cases hroom:rows.length+ys.length≤cap
 ·have hin : ∀ j,j<news.length→(w.cell? ⟨g,rows.length*n+j,none⟩).isSome=true∧w.frozen? ⟨g,rows.length*n+j,none⟩=false:=fun j hj=>by
   have hlt:rows.length*n+j<cur.size:=by
    rw [hcs]
    have:(rows.length+ys.length)*n≤cap*n:=Nat.mul_le_mul_right n hroom
    rw [Nat.add_mul] at this
    omega
   rw [z15 hgc,Array.getElem?_eq_getElem hlt]
   exact ⟨rfl,by simp [World.frozen?,hgc]⟩
  have hoff:oo+(rows.length-m)*n=rows.length*n:=by
   rw [hoo (by omega),← Nat.add_mul]
   congr 1;omega
  have hrunU:=run_append_room_cells (P:=P) w ty o.type e i hu' hi g 0 rows.length cap ay ys.length c news (by rw [hlen,hsz]) (hcell ay rfl) hone' hroom (fun j hj=>by rw [hsz,Nat.zero_add];exact (hin j hj).1) (fun j hj=>by rw [hsz,Nat.zero_add];exact (hin j hj).2)
  have hrunV:=run_append_room_cells (P:=P) w ty o.type e i hu' hi g oo (rows.length-m) (cap-m) ay ys.length c news (by rw [hlen,hsz]) (hcell ay rfl) hone' (by omega) (fun j hj=>by rw [hsz,hoff];exact (hin j hj).1) (fun j hj=>by rw [hsz,hoff];exact (hin j hj).2)
  obtain ⟨v',w',news',hrun,hown',hg,hat,hone2,hyn,hpr⟩:=z0Y (P:=P) (ty:=o.type) (z0A ht) hown hp h63 hbytes
  rw [hsz,hoff] at hrunV
  rw [hsz,Nat.zero_add,hrun] at hrunU
  have hv' : v' = .slice (some ⟨g,0,none⟩) (rows.length+ys.length) cap:=by cases hrunU;rfl
  have hw' : w' = w.setCells g (rows.length*n) news:=by cases hrunU;rfl
  rw [← hw'] at hrunV
  have hrunS:(execOp a.eval o).run P w = .ok (.value (.slice (some ⟨g,oo,none⟩) (rows.length-m+ys.length) (cap-m))) w':=by
   simp only [execOp,h,resolve,invoke,builtin,Sem.run_bind,Sem.run_pure,Result.andThen_ok,List.map_toArray,List.map_cons,List.map_nil,hax,hay,hrunV]
  rw [show rows.length-m+ys.length=rows.length+ys.length-m by omega] at hrunS
  obtain ⟨u,rfl⟩ : ∃ u,u=Value.slice (some ⟨g,0,none⟩) rows.length cap:=⟨_,rfl⟩
  generalize hgu:Value.slice (some ⟨g,0,none⟩) rows.length cap=u at hu hown hg hat hrun
  have hblk : ∀ b,zP v' = some b→zP u=some b∨b=w.heap.size:=fun b hb=>by
   have hb':=z6t hown' hb
   rcases hat with e'|e'
   ·rw [e'] at hb';exact .inl (z0O hb')
   ·rw [e'] at hb';cases hb';exact .inr rfl
  have hDu : ∀ b,u.ownBlock=some b→Dm L loc b:=fun b hb => .inr ⟨tag,u,hu,z0O hb⟩
  have hk:Kp (Dm L loc) w w':=⟨hg.os,hg.tape,hg.output,hg.size,fun k hk hn=>hg.block k hk (fun e=>hn (hDu k e.symm))⟩
  have hD : ∀ k,k<w.heap.size→Dm L (zO loc tag v') k→Dm L loc k:=fun k hk hd=>(z1S hd).elim (fun e=>(hblk k e).elim (fun e' => .inr ⟨tag,u,hu,e'⟩) (fun e'=>by omega)) id
  have hlc : ∀ k z,k<s.N→k ≠ tag→zO loc tag v' k=some z→loc k=some z:=fun k z _ hne hz=>by rwa [zC _ _ hne] at hz
  have hv1:v'.oneCell' = true:=by rcases hown'.2 with ⟨rfl,_⟩|⟨g,c,cur,rfl,_⟩ <;> rfl
  unfold Oper.wp
  rw [hrunS]
  refine ⟨_,zO loc tag v',hA,?_,⟨⟨hg.os,hg.tape,hg.output,hg.size,fun k hk hn=>hg.block k hk (fun e=>hn (.inr ⟨tag,u,hu,z0O e.symm⟩))⟩,fun b hb=>?_⟩⟩
  ·refine Rel.put' (s := { s.subst tag .zA with hp:=zF (s.subst tag .zA).hp tag (.row e n (rows++ys)) }) ⟨hr.defers,hr.size,fun t _=>?_,⟨fun t ob ht=>?_,fun t ht=>?_,fun t t' z z' b e1 e2 e3 e4=>?_,fun b hL=>Nat.lt_of_lt_of_le (hr.hp.inL b hL) hg.size,fun t z b e1 e2 hL=>?_⟩⟩ hd (.suf tag n m _ htN rfl fun b l c hz=>?_)
   ·show AR s.N _ _ _ ((s.subst tag .zA).get t) _
    rw [ASt.z5f]
    exact (hr.fr t trivial).sub (Nat.le_refl _) hk hD hlc (fun v _ _ => .zA v)
   ·change (zF _ _ _).lookup t=some ob at ht
    rw [zB] at ht
    have hm:(s.subst tag .zA).hp.lookup tag=some ((AO.row e n rows).sub tag .zA):=by simp only [ASt.subst,zI,hlk];rfl
    by_cases e:t=tag
    ·subst e
     rw [if_pos rfl,hm] at ht
     cases ht
     refine ⟨htN,v',zG _ _ _,flat++news',by rw [List.length_append];exact hown',fun r hr'=>(List.mem_append.1 hr').elim (hrn r) (hyn r),?_,fun v hv=>(List.mem_append.1 hv).elim (hone v) (hone2 v)⟩
     have:=z2n hown.1 hfl hpr
     exact fun k r j x h1 h2=>let ⟨v,h3,h4⟩:=this k r j x h1 h2;⟨v,h3,h4.mono hk hD⟩
    ·rw [if_neg e] at ht
     simp only [ASt.subst,zI,Option.map_eq_some_iff] at ht
     obtain ⟨ob',hob,rfl⟩:=ht
     obtain ⟨h5,z,h6,h7⟩:=hr.hp.at' t ob' hob
     refine ⟨h5,z,by rw [zC _ _ e];exact h6,h7.sub (Nat.le_refl _) hk hD hlc (fun v _ _ => .zA v) (fun b hb=>hg.block b (h7.z0G hb) (fun e'=>?_))⟩
     exact e (hr.hp.apart t tag z u b h6 hu hb (z0O e'.symm))
   ·change (zF _ _ _).lookup t=none at ht
    rw [zB] at ht
    by_cases e:t=tag
    ·subst e;rw [if_pos rfl] at ht;simp [ASt.subst,zI,hlk] at ht
    ·rw [if_neg e] at ht
     simp only [ASt.subst,zI,Option.map_eq_none_iff] at ht
     rw [zC _ _ e];exact hr.hp.dead t ht
   ·by_cases h5:t=tag
    ·by_cases h6:t' = tag
     ·rw [h5,h6]
     ·subst h5
      rw [zG] at e1;cases e1
      rw [zC _ _ h6] at e2
      rcases hblk b e3 with e5|e5
      ·exact absurd (hr.hp.apart t t' u z' b hu e2 e5 e4).symm h6
      ·obtain ⟨o',_,ho'⟩:=hr.hp.z1G e2
       have:=ho'.z0G e4
       omega
    ·by_cases h6:t' = tag
     ·subst h6
      rw [zG] at e2;cases e2
      rw [zC _ _ h5] at e1
      rcases hblk b e4 with e5|e5
      ·exact absurd (hr.hp.apart t t' z u b e1 hu e3 e5) h5
      ·obtain ⟨o',_,ho'⟩:=hr.hp.z1G e1
       have:=ho'.z0G e3
       omega
     ·rw [zC _ _ h5] at e1
      rw [zC _ _ h6] at e2
      exact hr.hp.apart t t' z z' b e1 e2 e3 e4
   ·by_cases h5:t=tag
    ·subst h5
     rw [zG] at e1;cases e1
     rcases hblk b e2 with e5|e5
     ·exact hr.hp.notL t u b hu e5 hL
     ·have:=hr.hp.inL b hL;omega
    ·rw [zC _ _ h5] at e1
     exact hr.hp.notL t z b e1 e2 hL
   ·rw [zG,hv'] at hz;cases hz;exact ⟨_,rfl,fun h=>hoo (by omega)⟩
  ·rcases z1S hb with e'|e'
   ·rcases hblk b e' with e5|e5
    ·exact .inl (.inr ⟨tag,u,hu,e5⟩)
    ·exact .inr (by omega)
   ·exact .inl e'
 ·have holds : ∀ (j:Nat) v,(flat.drop (m*n))[j]? = some v→w.cell? (Addr.add ⟨g,oo,none⟩ j)=some v:=fun j v hj=>by
   rw [List.getElem?_drop] at hj
   have hlt:=(List.getElem?_eq_some_iff.1 hj).1
   have hml:m<rows.length:=by
    by_cases e:m<rows.length
    ·exact e
    ·have:rows.length=m:=by omega
     rw [hfl0,this] at hlt;omega
   rw [hoo (by omega),Addr.add_lit,z15 hgc]
   rw [← htk,List.getElem?_take] at hj
   split at hj
   ·simpa using hj
   ·cases hj
  obtain ⟨v',w',hrun,hown',hg⟩:=run_append_arg_grows (P:=P) w ty o.type e i z n bytes hu' hi hz hsz hby hzs hn0 ⟨g,oo,none⟩ (rows.length-m) (cap-m) (flat.drop (m*n)) (by rw [List.length_drop,hfl0,Nat.sub_mul]) holds ay ys.length c news hlen (hcell ay rfl) (by omega) (by omega) (Nat.le_trans (Nat.mul_le_mul_right _ (by omega)) hbytes)
  have hb:Blw w.heap.size w w':=⟨⟨hg.os,hg.tape,hg.output,hg.size,fun k hk=>hg.block k hk (by simp)⟩⟩
  have hu2 : ∀ b,zP v' = some b→w.heap.size≤b:=fun b hb'=>by
   rcases hown'.2 with ⟨rfl,_⟩|⟨g',c',cur',rfl,hge,_⟩
   ·cases hb'
   ·cases hb';exact hge
  have hv1:v'.oneCell' = true:=by rcases hown'.2 with ⟨rfl,_⟩|⟨g,c,cur,rfl,_⟩ <;> rfl
  have hln:(rows.drop m++ys).length=rows.length-m+ys.length:=by simp
  have hown0:w'.ownsRow 0 e n v' ((rows.drop m++ys).length) (flat.drop (m*n)++news):=by
   rw [hln]
   refine ⟨hown'.1,?_⟩
   rcases hown'.2 with h|⟨g',c',cur',h1,_,h3⟩
   ·exact .inl h
   ·exact .inr ⟨g',c',cur',h1,Nat.zero_le _,h3⟩
  have hdl:(flat.drop (m*n)).length=(rows.drop m).length*n:=by rw [List.length_drop,List.length_drop,hfl0,Nat.sub_mul]
  have hall:=z2n (D:=Dm L loc) (w:=w) (ys:=ys) (news:=news) hdl (fun k r j x hk hx=>by
   rw [List.getElem?_drop] at hk
   obtain ⟨v,h5,h6⟩:=hfl (m+k) r j x hk hx
   refine ⟨v,?_,h6⟩
   rw [List.getElem?_drop,← h5]
   congr 1
   rw [Nat.add_mul];omega) hpr0
  have he:(execOp a.eval o).run P w = .ok (.value v') w':=by simp only [execOp,h,resolve,invoke,builtin,Sem.run_bind,Sem.run_pure,Result.andThen_ok,List.map_toArray,List.map_cons,List.map_nil,hax,hay,hrun]
  unfold Oper.wp
  rw [he]
  refine ⟨_,zO loc s.N v',hB,?_,.add hb _ _ hu2⟩
  refine (hr.add hb v' (.row e n (rows.drop m++ys)) hu2 ⟨flat.drop (m*n)++news,hown0,fun r hr'=>?_,fun k r j x hk hx=>?_,fun v hv'=>?_⟩).put' hd (.own s.N _ (Nat.lt_succ_self _) hv1 fun z hz=>by rw [zG] at hz;cases hz;rfl)
  ·rcases List.mem_append.1 hr' with h5|h5
   ·exact hrn r (List.mem_of_mem_drop h5)
   ·exact hyn0 r h5
  ·obtain ⟨v,h5,h6⟩:=hall k r j x hk hx
   exact ⟨v,h5,h6.mono (.of_below hb) (fun k hk hd=>(z1S hd).resolve_left fun e=>by have:=hu2 k e;omega)⟩
  ·rcases List.mem_append.1 hv' with h5|h5
   ·exact hone v (List.mem_of_mem_drop h5)
   ·exact hone' v h5
end
end Go.Proofs.YtdlgoofjechocaaGreatDoor
namespace Go.Proofs.YtdlgoofjechocaaGreatDoor
open Go.RowKit Go.Sort
theorem AO.z4c (t:Nat) (y:AV) (pin:Option Nat) (ty:TypeId) (cs:List AV):AO.sub t y (.boxP pin ty cs) = .boxP pin ty (cs.map (AV.sub t y)):=rfl
theorem AO.z5v (t:Nat) (y:AV) (e n:Nat) (rows:List (List PV)):AO.sub t y (.row e n rows) = .row e n rows:=rfl
theorem AO.z6J (t:Nat) (y:AV) (pin:Option Nat) (P:Program) (k n:Nat) (f:Lit→Option Value):AO.sub t y (.map pin P k n f) = .map pin P k n f:=rfl
theorem AO.z6k (t:Nat) (y:AV) (u:Value) (ob:Obj):AO.sub t y (.raw u ob) = .raw u ob:=rfl
theorem AO.z3G (t:Nat) (y:AV) (l:Nat) (sp:LSpec) (fr:List (Nat × AV)):AO.sub t y (.lrec l sp fr) = .lrec l sp (fr.map fun p=>(p.1,AV.sub t y p.2)):=rfl
theorem AO.z3W (t:Nat) (y:AV) (e:Nat) (cs:List AV):AO.sub t y (.arow e cs) = .arow e (cs.map (AV.sub t y)):=rfl
theorem AO.z9c (t:Nat) (y:AV) (P:Program) (k n:Nat) (f:Lit→Option AV) (q:Option (Nat × Lit)):AO.sub t y (.amap P k n f q) = .amap P k n (fun l=>(f l).map (AV.sub t y)) q:=rfl
theorem AO.z4I (n e:Nat) (cs:List AV):AO.okB n (.arow e cs)=cs.all (AV.okB n):=rfl
theorem AO.okB_amap (n:Nat) (P:Program) (k m:Nat) (f:Lit→Option AV) (q:Option (Nat × Lit)) (h : ∀ l x,f l=some x→x.okB n=true):AO.okB n (.amap P k m f q)=true:=by
 simp only [AO.okB,decide_eq_true_eq];exact h
theorem AO.z1I (n:Nat) (pin:Option Nat) (ty:TypeId) (cs:List AV):AO.okB n (.boxP pin ty cs)=cs.all (AV.okB n):=rfl
theorem AO.okB_row (n e m:Nat) (rows:List (List PV)):AO.okB n (.row e m rows)=true:=rfl
theorem AO.okB_map (n:Nat) (pin:Option Nat) (P:Program) (k m:Nat) (f:Lit→Option Value):AO.okB n (.map pin P k m f)=true:=rfl
theorem AO.okB_raw (n:Nat) (u:Value) (ob:Obj):AO.okB n (.raw u ob)=true:=rfl
theorem AO.z3s (n l:Nat) (sp:LSpec) (fr:List (Nat × AV)):AO.okB n (.lrec l sp fr)=fr.all fun p=>AV.okB n p.2:=rfl
def AO.handle:AO→Option Value
 | .boxP (some b) _ _=>some (.pointer (some ⟨b,0,none⟩))
 | .map (some b) _ _ _ _=>some (.map (some b))
 | .raw u _=>some u
 | .lrec l _ _=>some (.func (.yield l) #[] #[])
 | _=>none
theorem OR.handle {N:Nat} {D:Nat→Prop} {loc:Nat→Option Value} {w:World} {u v:Value} {o:AO} (h:OR N D loc w u o) (hv:o.handle=some v):u=v:=by
 cases o with
 | boxP pin ty cs =>
  obtain ⟨b,arr,rfl,_,_,_,_,hp⟩:=h
  cases pin with
  | none=>cases hv
  | some p=>cases hv;rw [hp p rfl]
 | map pin P k n f =>
  obtain ⟨b,D,rfl,_,_,hp⟩:=h
  cases pin with
  | none=>cases hv
  | some p=>cases hv;rw [hp p rfl]
 | raw v' ob=>obtain ⟨b,rfl,_⟩:=h;cases hv;rfl
 | amap P k n f q=>cases hv
 | arow e cs=>cases hv
 | lrec l sp fr=>obtain ⟨rfl,_⟩:=h;cases hv;rfl
 | row e n rows=>cases hv
def Kept (hp hp' : Hp) (t:Nat):Prop:=match hp.lookup t,hp'.lookup t with
 | some o,some o'=>o.handle.isSome=true∧o.handle=o'.handle
 | _,_=>False
theorem Kept.spec {hp hp' : Hp} {t:Nat} (h:Kept hp hp' t) : ∃ o o' v,hp.lookup t=some o∧hp'.lookup t=some o' ∧ o.handle=some v∧o'.handle=some v:=by
 unfold Kept at h
 split at h
 ·rename_i o o' h1 h2
  obtain ⟨v,hv⟩:=Option.isSome_iff_exists.1 h.1
  exact ⟨o,o',v,h1,h2,hv,h.2 ▸ hv⟩
 ·exact h.elim
def AV.keep (n:Nat) (ks:List Nat):AV→AV
 | .own t=>if n≤t∨t ∈ ks then .own t else .zA
 | .ptr t k=>if n≤t∨t ∈ ks then .ptr t k else .zA
 | .rptr t m k j=>if n≤t∨t ∈ ks then .rptr t m k j else .zA
 | .pre t m=>if n≤t∨t ∈ ks then .pre t m else .zA
 | .suf t k m=>if n≤t∨t ∈ ks then .suf t k m else .zA
 | .fn f cs => .fn f (cs.attach.map fun ⟨c,_⟩=>AV.keep n ks c)
 | .agg cs => .agg (cs.attach.map fun ⟨c,_⟩=>AV.keep n ks c)
 | .tup cs => .tup (cs.attach.map fun ⟨c,_⟩=>AV.keep n ks c)
 | x=>x
theorem AV.z0E (n:Nat) (ks:List Nat) (t:Nat):AV.keep n ks (.own t)=if n≤t∨t ∈ ks then .own t else .zA:=by simp [AV.keep]
theorem AV.z0D (n:Nat) (ks:List Nat) (t k:Nat):AV.keep n ks (.ptr t k)=if n≤t∨t ∈ ks then .ptr t k else .zA:=by simp [AV.keep]
theorem AV.z0o (n:Nat) (ks:List Nat) (t m k j:Nat):AV.keep n ks (.rptr t m k j)=if n≤t∨t ∈ ks then .rptr t m k j else .zA:=by simp [AV.keep]
theorem AV.keep_suf (n:Nat) (ks:List Nat) (t k m:Nat):AV.keep n ks (.suf t k m)=if n≤t∨t ∈ ks then .suf t k m else .zA:=by simp [AV.keep]
theorem AV.z0X (n:Nat) (ks:List Nat) (t m:Nat):AV.keep n ks (.pre t m)=if n≤t∨t ∈ ks then .pre t m else .zA:=by simp [AV.keep]
theorem AV.z1J (n:Nat) (ks:List Nat) (f:Fn) (cs:List AV):AV.keep n ks (.fn f cs) = .fn f (cs.map (AV.keep n ks)):=by simp [AV.keep]
theorem AV.z0T (n:Nat) (ks:List Nat) (cs:List AV):AV.keep n ks (.agg cs) = .agg (cs.map (AV.keep n ks)):=by simp [AV.keep]
theorem AV.z0U (n:Nat) (ks:List Nat) (cs:List AV):AV.keep n ks (.tup cs) = .tup (cs.map (AV.keep n ks)):=by simp [AV.keep]
theorem AV.z0F (n:Nat) (ks:List Nat) (x:PV):AV.keep n ks (.p x) = .p x:=by simp [AV.keep]
theorem AV.z0V (n:Nat) (ks:List Nat) (r:List PV) (k:Nat):AV.keep n ks (.elt r k) = .elt r k:=by simp [AV.keep]
theorem AV.z0p (n:Nat) (ks:List Nat):AV.keep n ks .cap0 = .cap0:=by simp [AV.keep]
theorem AV.z0a (n:Nat) (ks:List Nat):AV.keep n ks .zA = .zA:=by simp [AV.keep]
theorem AR.keep {n:Nat} {ks:List Nat} {N N' : Nat} {D D' : Nat→Prop} {loc loc' : Nat→Option Value} {w w' : World} {x:AV} {v:Value} (h:AR N D loc w x v) (hN:N≤N') (hk:Kp D w w') (hD : ∀ k,k<w.heap.size→D' k→D k)
  (hl : ∀ t u,t<N→(n≤t∨t ∈ ks)→loc' t=some u→loc t=some u):AR N' D' loc' w' (AV.keep n ks x) v:=by
 induction h with
 | p x v h=>rw [AV.z0F];exact .p x v (h.mono hk hD)
 | elt row off b o f hb hnD hc hr=>rw [AV.z0V];exact .elt row off b o f (Nat.lt_of_lt_of_le hb hk.size) (fun h=>hnD (hD _ hb h)) (fun j x h1=>(hk.cell hb hnD).trans (hc j x h1)) (fun j x h1=>(hr j x h1).mono hk hD)
 | ptr t off v ht h1 h =>
  rw [AV.z0D]
  split
  ·rename_i e;exact .ptr t off v (Nat.lt_of_lt_of_le ht hN) h1 fun b hb=>h b (hl t _ ht e hb)
  ·exact .zA _
 | rptr t m k j v ht h1 h =>
  rw [AV.z0o]
  split
  ·rename_i e;exact .rptr t m k j v (Nat.lt_of_lt_of_le ht hN) h1 fun b l c hb=>h b l c (hl t _ ht e hb)
  ·exact .zA _
 | own t v ht h1 h =>
  rw [AV.z0E]
  split
  ·rename_i e;exact .own t v (Nat.lt_of_lt_of_le ht hN) h1 fun u hu=>h u (hl t u ht e hu)
  ·exact .zA _
 | pre t m v ht h1 h =>
  rw [AV.z0X]
  split
  ·rename_i e;exact .pre t m v (Nat.lt_of_lt_of_le ht hN) h1 fun b l c hb=>h b l c (hl t _ ht e hb)
  ·exact .zA _
 | suf t k m v ht h1 h =>
  rw [AV.keep_suf]
  split
  ·rename_i e;exact .suf t k m v (Nat.lt_of_lt_of_le ht hN) h1 fun b l c hb=>h b l c (hl t _ ht e hb)
  ·exact .zA _
 | fn f caps vs hlen _ ih =>
  rw [AV.z1J]
  refine .fn f _ vs (by simpa using hlen) fun j x hx=>?_
  simp only [List.getElem?_map,Option.map_eq_some_iff] at hx
  obtain ⟨c,hc,rfl⟩:=hx
  exact ih j c hc
 | agg cs vs hlen _ h1 ih =>
  rw [AV.z0T]
  refine .agg _ vs (by simpa using hlen) (fun j x hx=>?_) h1
  simp only [List.getElem?_map,Option.map_eq_some_iff] at hx
  obtain ⟨c,hc,rfl⟩:=hx
  exact ih j c hc
 | tup cs vs hlen _ ih =>
  rw [AV.z0U]
  refine .tup _ vs (by simpa using hlen) fun j x hx=>?_
  simp only [List.getElem?_map,Option.map_eq_some_iff] at hx
  obtain ⟨c,hc,rfl⟩:=hx
  exact ih j c hc
 | cap0 a h=>rw [AV.z0p];exact .cap0 a fun x hx=>⟨Nat.lt_of_lt_of_le (h x hx).1 hk.size,fun hd=>(h x hx).2.1 (hD _ (h x hx).1 hd),(h x hx).2.2⟩
 | zA v=>rw [AV.z0a];exact .zA v
def AO.keep (n:Nat) (ks:List Nat):AO→AO
 | .boxP pin ty cs => .boxP pin ty (cs.map (AV.keep n ks))
 | .row e m rows => .row e m rows
 | .map pin P k m f => .map pin P k m f
 | .raw u ob => .raw u ob
 | .lrec l sp fr => .lrec l sp (fr.map fun p=>(p.1,AV.keep n ks p.2))
 | .amap P k m f q => .amap P k m (fun l=>(f l).map (AV.keep n ks)) q
 | .arow e cs => .arow e (cs.map (AV.keep n ks))
theorem OR.keep {n:Nat} {ks:List Nat} {N N' : Nat} {D D' : Nat→Prop} {loc loc' : Nat→Option Value} {w w' : World} {u:Value} {o:AO} (h:OR N D loc w u o) (hN:N≤N') (hk:Kp D w w') (hD : ∀ k,k<w.heap.size→D' k→D k)
  (hl : ∀ t u,t<N→(n≤t∨t ∈ ks)→loc' t=some u→loc t=some u) (hb : ∀ b,zP u=some b→w'.heap[b]? = w.heap[b]?):OR N' D' loc' w' u (o.keep n ks):=by
 cases o with
 | map pin P k n f =>
  obtain ⟨b,D,rfl,⟨es,ck,h1,h2⟩,h3⟩:=h
  exact ⟨b,D,rfl,⟨es,ck,(hb b rfl).trans h1,h2⟩,h3⟩
 | amap P k n f q =>
  obtain ⟨b,DD,g,rfl,⟨es,ck,h1,h2⟩,h3,h4,h5⟩:=h
  refine ⟨b,DD,g,rfl,⟨es,ck,(hb b rfl).trans h1,h2⟩,h3,fun kl=>⟨fun x hx=>?_,fun hx=>(h4 kl).2 (by simpa using hx)⟩,h5.mono (hb b rfl)⟩
  obtain ⟨x',hx',rfl⟩:=Option.map_eq_some_iff.1 hx
  obtain ⟨v,k1,k2⟩:=(h4 kl).1 x' hx'
  exact ⟨v,k1,k2.keep hN hk hD hl⟩
 | arow e cs =>
  obtain ⟨flat,h1,h3,h4⟩:=h
  refine ⟨flat,by rw [List.length_map];exact z0x h1 fun g hg=>hb g (by
   cases u <;> simp [Value.ownBlock] at hg
   rename_i ad _ _
   cases ad <;> simp at hg
   simp [zP,hg]),fun j x hx=>?_,h4⟩
  simp only [List.getElem?_map,Option.map_eq_some_iff] at hx
  obtain ⟨c,hc,rfl⟩:=hx
  obtain ⟨v,h5,h6⟩:=h3 j c hc
  exact ⟨v,h5,h6.keep hN hk hD hl⟩
 | raw v ob =>
  obtain ⟨b,rfl,h1,h2⟩:=h
  exact ⟨b,rfl,h1,(hb b h1).trans h2⟩
 | lrec l sp fr =>
  obtain ⟨rfl,tmps,h1,h2,h3⟩:=h
  refine ⟨rfl,tmps,(hb l rfl).trans h1,h2,fun t=>?_⟩
  rw [zI]
  have h4:=h3 t
  cases hf:fr.lookup t with
  | none=>exact .zA _
  | some x=>rw [hf] at h4;exact h4.keep hN hk hD hl
 | boxP pin ty cs =>
  obtain ⟨b,arr,rfl,h1,h2,h3,h4⟩:=h
  refine ⟨b,arr,rfl,(hb b rfl).trans h1,by simpa [AO.keep] using h2,fun j x hx=>?_,h4⟩
  simp only [List.getElem?_map,Option.map_eq_some_iff] at hx
  obtain ⟨c,hc,rfl⟩:=hx
  exact (h3 j c hc).keep hN hk hD hl
 | row e n rows =>
  obtain ⟨flat,h1,h2,h3,h4⟩:=h
  refine ⟨flat,z0x h1 fun g hg=>hb g (z0O hg),h2,fun k r j x hr hx=>?_,h4⟩
  obtain ⟨v,h5,h6⟩:=h3 k r j x hr hx
  exact ⟨v,h5,h6.mono hk hD⟩
def MemC (P:Program) (f:FuncId) (n:Nat) (hp:Hp) (xs:List AV) (Q:Hp→AV→Prop):Prop := ∀ L loc w vs,HRel L n hp loc w→ARs n (Dm L loc) loc w xs vs →
 Calls P f vs.toArray w fun e w' => ∃ v loc' hp' r,e = .returned v∧Q hp' r∧HRel L n hp' loc' w' ∧ AR n (Dm L loc') loc' w' r v∧Ext loc w loc' w'
def ASt.zR (s:ASt) (n:Nat) (ks:List Nat) (hp' : Hp):ASt := { s with fr:=s.fr.map fun p=>(p.1,p.2.keep n ks),hp:=hp' ++ (s.hp.filter fun p=>decide (n≤p.1)).map fun p=>(p.1,p.2.keep n ks) }
theorem ASt.get_callM (s:ASt) (n:Nat) (ks:List Nat) (hp' : Hp) (t:Nat):(s.zR n ks hp').get t=(s.get t).keep n ks:=by
 simp only [ASt.get,ASt.zR,zI]
 cases s.fr.lookup t <;> simp [AV.z0a]
def Passes (s:ASt) (n:Nat) (hp:Hp):Prop:=n≤s.N∧(∀ p ∈ hp,s.hp.lookup p.1=some p.2∧p.1<n∧p.2.okB n=true) ∧ ∀ p ∈ s.hp,p.1<n→(hp.lookup p.1).isSome=true
theorem z2V {α:Type} (a b:List (Nat × α)) (t:Nat):(a++b).lookup t=(a.lookup t).or (b.lookup t):=by
 induction a with
 | nil=>simp
 | cons p r ih =>
  obtain ⟨j,x⟩:=p
  rw [List.cons_append]
  by_cases e:t=j
  ·subst e;rw [zi,zi];rfl
  ·rw [ze e,ze e,ih]
theorem z7m {α:Type} (l:List (Nat × α)) (n t:Nat):(l.filter fun p=>decide (n≤p.1)).lookup t=if n≤t then l.lookup t else none:=by
 induction l with
 | nil=>simp
 | cons p r ih =>
  obtain ⟨j,x⟩:=p
  by_cases e:t=j
  ·subst e
   by_cases h:n≤t
   ·rw [List.filter_cons,if_pos (by simpa using h),zi,if_pos h,zi]
   ·rw [List.filter_cons,if_neg (by simpa using h),ih,if_neg h,if_neg h]
  ·rw [ze e,← ih,List.filter_cons]
   split
   ·rw [ze e]
   ·rfl
theorem z1i {α:Type} {l:List (Nat × α)} {t:Nat} {x : α} (h:l.lookup t=some x):(t,x) ∈ l:=by
 induction l with
 | nil=>cases h
 | cons p r ih =>
  obtain ⟨j,y⟩:=p
  by_cases e:t=j
  ·subst e;rw [zi] at h;cases h;exact List.mem_cons.2 (.inl rfl)
  ·rw [ze e] at h;exact List.mem_cons.2 (.inr (ih h))
theorem z6l {L:Lim} {s:ASt} {loc:Nat→Option Value} {a:Act} {w:World} (hr:Rel All L s loc a w) {n:Nat} {hp:Hp} (hps:Passes s n hp) (ks:List Nat) :
  ∃ (LC:Nat→Prop) (locC:Nat→Option Value),HRel LC n hp locC w∧(∀ x v,x.okB n=true→AR s.N (Dm L loc) loc w x v→AR n (Dm LC locC) locC w x v) ∧
   ∀ (w' : World) (loc' : Nat→Option Value) (hp' : Hp),HRel LC n hp' loc' w' → Ext locC w loc' w' → (∀ t ∈ ks,t<n→Kept hp hp' t) →
    ∃ loc2,Rel All L (s.zR n ks hp') loc2 a w' ∧ Ext loc w loc2 w' ∧ ∀ x v,AR n (Dm LC loc') loc' w' x v→AR s.N (Dm L loc2) loc2 w' x v:=by
 obtain ⟨c1,c2,c3⟩:=hps
 let locC:Nat→Option Value:=fun t=>if t<n then loc t else none
 let LC:Nat→Prop:=fun b=>L b ∨ ∃ t u,n≤t∧loc t=some u∧zP u=some b
 have lC : ∀ t u,locC t=some u→t<n∧loc t=some u:=fun t u h=>by
  simp only [locC] at h
  split at h
  ·exact ⟨by assumption,h⟩
  ·cases h
 have dC : ∀ b,Dm LC locC b→Dm L loc b:=fun b h=>by
  rcases h with (h|⟨t,u,_,h1,h2⟩)|⟨t,u,h1,h2⟩
  ·exact .inl h
  ·exact .inr ⟨t,u,h1,h2⟩
  ·exact .inr ⟨t,u,(lC t u h1).2,h2⟩
 have hlook : ∀ t o,hp.lookup t=some o→s.hp.lookup t=some o∧t<n∧o.okB n=true:=fun t o h=>c2 _ (z1i h)
 have hdead : ∀ t,hp.lookup t=none→locC t=none:=fun t h=>by
  simp only [locC]
  split
  ·rename_i hlt
   refine hr.hp.dead t ?_
   cases ho:s.hp.lookup t with
   | none=>rfl
   | some o=>have:=c3 _ (z1i ho) hlt;rw [h] at this;cases this
  ·rfl
 refine ⟨LC,locC,⟨fun t o ho=>?_,hdead,fun t t' u u' b h1 h2=>hr.hp.apart t t' u u' b (lC t u h1).2 (lC t' u' h2).2,fun b hb=>hr.hp.z8s (dC b (.inl hb)),fun t u b h1 h2 h3=>?_⟩,fun x v hx h=>(h.low hx).mono (Nat.le_refl _) (Kp.refl _ _) (fun k _ h=>dC k h) (fun t u _ h=>(lC t u h).2),fun w' loc' hp' hh' hx hks=>?_⟩
 ·obtain ⟨h1,h2,h3⟩:=hlook t o ho
  obtain ⟨_,u,h4,h5⟩:=hr.hp.at' t o h1
  exact ⟨h2,u,by simp [locC,h2,h4],(h5.low h3).mono (Nat.le_refl _) (Kp.refl _ _) (fun k _ h=>dC k h) (fun t u _ h=>(lC t u h).2) (fun _ _=>rfl)⟩
 ·rcases h3 with h3|⟨t',u',h4,h5,h6⟩
  ·exact hr.hp.notL t u b (lC t u h1).2 h2 h3
  ·have:=hr.hp.apart t t' u u' b (lC t u h1).2 h5 h2 h6
   have:=(lC t u h1).1
   omega
 ·let loc2:Nat→Option Value:=fun t=>if t<n then loc' t else loc t
  have hge : ∀ t,n≤t→loc' t=none:=fun t h=>hh'.dead t (hh'.z6X h)
  have l2 : ∀ t u,loc2 t=some u→(t<n∧loc' t=some u)∨(n≤t∧loc t=some u):=fun t u h=>by
   simp only [loc2] at h
   split at h
   ·exact .inl ⟨by assumption,h⟩
   ·exact .inr ⟨by omega,h⟩
  have lt' : ∀ t u,loc' t=some u→t<n:=fun t u h=>Nat.lt_of_not_le fun e=>by rw [hge t e] at h;cases h
  have d2 : ∀ b,Dm L loc2 b→Dm LC loc' b:=fun b h=>by
   rcases h with h|⟨t,u,h1,h2⟩
   ·exact .inl (.inl h)
   ·rcases l2 t u h1 with ⟨_,h3⟩|⟨h3,h4⟩
    ·exact .inr ⟨t,u,h3,h2⟩
    ·exact .inl (.inr ⟨t,u,h3,h4,h2⟩)
  have kpL:Kp (Dm L loc) w w':=hx.kp.wide fun b h=>by
   rcases h with h|⟨t,u,h1,h2⟩
   ·exact h.elim
   ·exact .inr ⟨t,u,(lC t u h1).2,h2⟩
  have hD : ∀ k,k<w.heap.size→Dm L loc2 k→Dm L loc k:=fun k hk h=>by
   rcases d2 k h with h|h
   ·exact dC k (.inl h)
   ·rcases hx.fresh k (.inr h) with (h|⟨t,u,h1,h2⟩)|h
    ·exact h.elim
    ·exact .inr ⟨t,u,(lC t u h1).2,h2⟩
    ·omega
  have hl : ∀ t u,t<s.N→(n≤t∨t ∈ ks)→loc2 t=some u→loc t=some u:=fun t u _ hc h=>by
   rcases l2 t u h with ⟨h1,h2⟩|⟨_,h2⟩
   ·rcases hc with hc|hc
    ·omega
    ·obtain ⟨o,o',v,g1,g2,g3,g4⟩:=(hks t hc h1).spec
     obtain ⟨_,u1,g5,g6⟩:=hr.hp.at' t o (hlook t o g1).1
     obtain ⟨_,u2,g7,g8⟩:=hh'.at' t o' g2
     rw [h2] at g7;cases g7
     rw [g5,g6.handle g3,g8.handle g4]
   ·exact h2
  have hlt : ∀ t,t<n→(s.zR n ks hp').hp.lookup t=hp'.lookup t:=fun t ht=>by
   simp only [ASt.zR]
   rw [z2V,zI,z7m,if_neg (by omega)]
   simp
  have hgt : ∀ t,n≤t→(s.zR n ks hp').hp.lookup t=(s.hp.lookup t).map (AO.keep n ks):=fun t ht=>by
   simp only [ASt.zR]
   rw [z2V,zI,z7m,if_pos ht,hh'.z6X ht]
   simp
  have blk : ∀ t u b,n≤t→loc t=some u→zP u=some b→b<w.heap.size∧w'.heap[b]? = w.heap[b]?:=fun t u b ht h1 h2=>by
   obtain ⟨o,_,ho⟩:=hr.hp.z1G h1
   refine ⟨ho.z0G h2,hx.kp.block b (ho.z0G h2) ?_⟩
   rintro (h|⟨t',u',h3,h4⟩)
   ·exact h
   ·have:=hr.hp.apart t t' u u' b h1 (lC t' u' h3).2 h2 h4
    have:=(lC t' u' h3).1
    omega
  have mix : ∀ t t' u u' b,t<n→n≤t' → loc' t=some u→loc t' = some u' → zP u=some b→zP u' = some b→False:=fun t t' u u' b h1 h2 h3 h4 h5 h6=>by
   rcases hx.fresh b (.inr ⟨t,u,h3,h5⟩) with (h|⟨t2,u2,h7,h8⟩)|h
   ·exact h.elim
   ·have:=hr.hp.apart t2 t' u2 u' b (lC t2 u2 h7).2 h4 h8 h6
    have:=(lC t2 u2 h7).1
    omega
   ·have:=(blk t' u' b h2 h4 h6).1
    omega
  refine ⟨loc2,⟨hr.defers,hr.size,fun t _=>?_,⟨fun t o ho=>?_,fun t ht=>?_,fun t t' u u' b h1 h2 h3 h4=>?_,fun b hb=>Nat.lt_of_lt_of_le (hr.hp.inL b hb) kpL.size,fun t u b h1 h2 h3=>?_⟩⟩,⟨hx.kp.wide fun b h=>?_,fun b h=>?_⟩,fun x v h=>h.mono c1 (Kp.refl _ _) (fun k _ h=>d2 k h) (fun t u ht h=>?_)⟩
  ·rw [ASt.get_callM]
   exact (hr.fr t trivial).keep (Nat.le_refl _) kpL hD hl
  ·rcases Nat.lt_or_ge t n with ht|ht
   ·rw [hlt t ht] at ho
    obtain ⟨h1,u,h2,h3⟩:=hh'.at' t o ho
    exact ⟨Nat.lt_of_lt_of_le h1 c1,u,by simp [loc2,ht,h2],h3.mono c1 (Kp.refl _ _) (fun k _ h=>d2 k h) (fun t u ht h=>by rcases l2 t u h with ⟨_,h⟩|⟨h,_⟩ <;> first|exact h|omega) (fun _ _=>rfl)⟩
   ·rw [hgt t ht] at ho
    obtain ⟨o',h1,rfl⟩:=Option.map_eq_some_iff.1 ho
    obtain ⟨h2,u,h3,h4⟩:=hr.hp.at' t o' h1
    exact ⟨h2,u,by simp [loc2,Nat.not_lt.2 ht,h3],h4.keep (Nat.le_refl _) kpL hD hl fun b hb=>(blk t u b ht h3 hb).2⟩
  ·rcases Nat.lt_or_ge t n with hlt'|hge'
   ·rw [hlt t hlt'] at ht
    simp [loc2,hlt',hh'.dead t ht]
   ·rw [hgt t hge'] at ht
    simp only [Option.map_eq_none_iff] at ht
    simp [loc2,Nat.not_lt.2 hge',hr.hp.dead t ht]
  ·rcases l2 t u h1 with ⟨g1,g2⟩|⟨g1,g2⟩ <;> rcases l2 t' u' h2 with ⟨g3,g4⟩|⟨g3,g4⟩
   ·exact hh'.apart t t' u u' b g2 g4 h3 h4
   ·exact (mix t t' u u' b g1 g3 g2 g4 h3 h4).elim
   ·exact (mix t' t u' u b g3 g1 g4 g2 h4 h3).elim
   ·exact hr.hp.apart t t' u u' b g2 g4 h3 h4
  ·rcases l2 t u h1 with ⟨g1,g2⟩|⟨g1,g2⟩
   ·exact hh'.notL t u b g2 h2 (.inl h3)
   ·exact hr.hp.notL t u b g2 h2 h3
  ·rcases h with h|⟨t,u,h1,h2⟩
   ·exact h.elim
   ·exact .inr ⟨t,u,(lC t u h1).2,h2⟩
  ·rcases h with h|⟨t,u,h1,h2⟩
   ·exact h.elim
   ·rcases l2 t u h1 with ⟨_,h3⟩|⟨_,h3⟩
    ·rcases hx.fresh b (.inr ⟨t,u,h3,h2⟩) with (h|⟨t2,u2,h7,h8⟩)|h
     ·exact h.elim
     ·exact .inl (.inr ⟨t2,u2,(lC t2 u2 h7).2,h8⟩)
     ·exact .inr h
    ·exact .inl (.inr ⟨t,u,h3,h2⟩)
  ·rcases l2 t u h with ⟨_,h⟩|⟨h,_⟩
   ·exact h
   ·omega
section
variable {P:Program} {ops:Array Oper} {o:Oper} {s:ASt}
def z8g (P:Program) (s:ASt) (f:FuncId) (xs:List AV) (d:Option Nat) (K:ASt→Prop):Prop := ∃ n hp Q ks,Ent P f∧MemC P f n hp xs Q∧Passes s n hp∧(xs.all (·.okB n))=true ∧ ∀ hp' r,Q hp' r→(∀ t ∈ ks,t<n→Kept hp hp' t)∧K ((s.zR n ks hp').put d r)
theorem z8g.mono {f:FuncId} {xs:List AV} {d:Option Nat} {K K' : ASt→Prop} (h : ∀ s,K s→K' s) (k:z8g P s f xs d K):z8g P s f xs d K' :=
 let ⟨n,hp,Q,ks,h1,h2,h3,h4,h5⟩:=k;⟨n,hp,Q,ks,h1,h2,h3,h4,fun hp' r hq=>⟨(h5 hp' r hq).1,h _ (h5 hp' r hq).2⟩⟩
theorem z8g.eff {f:FuncId} {xs:List AV} {K:ASt→Prop} {vals:Act→List Value} (h:z8g P s f xs o.dst K) (hd : ∀ t,o.dst=some t→t<s.n)
  (hrun : ∀ L loc a w,Rel All L s loc a w→Ent P f→(execOp a.eval o).run P w = .ok (.enter f (vals a).toArray) w∧ARs s.N (Dm L loc) loc w xs (vals a)):z3b P o s K:=fun L loc a w hr=>by
 obtain ⟨n,hp,Q,ks,hent,hm,hps,hok,hq⟩:=h
 obtain ⟨hx,ha⟩:=hrun L loc a w hr hent
 obtain ⟨LC,locC,h1,h2,h3⟩:=z6l hr hps ks
 unfold Oper.wp
 rw [hx]
 refine (hm LC locC w (vals a) h1 ⟨ha.1,fun j x v hx hv=>h2 x v (List.all_eq_true.1 hok x (List.mem_of_getElem? hx)) (ha.2 j x v hx hv)⟩).mono fun e w' ⟨v,loc',hp',r,he,hQ,g1,g2,g3⟩=>?_
 subst he
 obtain ⟨q1,q2⟩:=hq hp' r hQ
 obtain ⟨loc2,g4,g5,g6⟩:=h3 w' loc' hp' g1 g3 q1
 exact ⟨_,loc2,q2,Rel.put' g4 (s:=s.zR n ks hp') hd (g6 r v g2),g5⟩
def CallN (P:Program) (s:ASt) (f:FuncId) (xs:List AV) (d:Option Nat) (K:ASt→Prop):Prop := ∃ o:AO,Ent P f∧(∀ L loc w vs,HRel L s.N s.hp loc w→ARs s.N (Dm L loc) loc w xs vs →
 Calls P f vs.toArray w fun e w' => ∃ u,e = .returned u∧Blw w.heap.size w w' ∧ (∀ b,zP u=some b→w.heap.size≤b)∧u.oneCell' = true∧OR (s.N+1) (Dm L (zO loc s.N u)) (zO loc s.N u) w' u o)∧K ((s.add o).put d (.own s.N))
theorem CallN.eff {f:FuncId} {xs:List AV} {K:ASt→Prop} {vals:Act→List Value} (h:CallN P s f xs o.dst K) (hd : ∀ t,o.dst=some t→t<s.n)
  (hrun : ∀ L loc a w,Rel All L s loc a w→Ent P f→(execOp a.eval o).run P w = .ok (.enter f (vals a).toArray) w∧ARs s.N (Dm L loc) loc w xs (vals a)):z3b P o s K:=fun L loc a w hr=>by
 obtain ⟨ob,hent,hc,hK⟩:=h
 obtain ⟨hx,ha⟩:=hrun L loc a w hr hent
 unfold Oper.wp
 rw [hx]
 refine (hc L loc w (vals a) hr.hp ha).mono fun e w' ⟨u,he,hb,hu,h1,hor⟩=>?_
 subst he
 refine ⟨_,zO loc s.N u,hK,(hr.add hb u ob hu hor).put' hd (.own s.N _ (Nat.lt_succ_self _) h1 fun z hz=>?_),.add hb _ _ hu⟩
 rw [zG] at hz;cases hz;rfl
def z5w (P:Program) (s:ASt) (f:FuncId) (xs:List AV) (d:Option Nat) (K:ASt→Prop):Prop:=z8g P s f xs d K∨CallN P s f xs d K
theorem z5w.mono {f:FuncId} {xs:List AV} {d:Option Nat} {K K' : ASt→Prop} (h : ∀ s,K s→K' s) (k:z5w P s f xs d K):z5w P s f xs d K' :=
 k.imp (z8g.mono h) fun ⟨o,h1,h2,h3⟩=>⟨o,h1,h2,h _ h3⟩
theorem z5w.eff {f:FuncId} {xs:List AV} {K:ASt→Prop} {vals:Act→List Value} (h:z5w P s f xs o.dst K) (hd : ∀ t,o.dst=some t→t<s.n)
  (hrun : ∀ L loc a w,Rel All L s loc a w→Ent P f→(execOp a.eval o).run P w = .ok (.enter f (vals a).toArray) w∧ARs s.N (Dm L loc) loc w xs (vals a)):z3b P o s K:=h.elim (fun h=>h.eff hd hrun) (fun h=>h.eff hd hrun)
theorem op_callM (f:FuncId) (args:Array Operand) (tys:Array TypeId) {K:ASt→Prop} (h:o.op = .call { callee := .value (.func f),args:=args,argTypes:=tys }) (hc:z5w P s f (args.toList.map s.ev) o.dst K) (hd : ∀ t,o.dst=some t→t<s.n):z3b P o s K :=
 hc.eff (vals:=fun a=>args.toList.map a.eval) hd fun L loc a w hr he=>⟨by
  have:=he (args.map a.eval) w
  have e:(args.toList.map a.eval).toArray=args.map a.eval:=by apply Array.ext';simp
  rw [e]
  simp [execOp,h,resolve,Act.eval,Deferred.ofValue,invoke,this],by simp,fun j x v hx hv=>by
  simp only [List.getElem?_map,Option.map_eq_some_iff] at hx hv
  obtain ⟨y,hy,rfl⟩:=hx
  obtain ⟨y',hy',rfl⟩:=hv
  rw [hy] at hy'
  cases hy'
  exact hr.ev y (fun _ _=>trivial)⟩
theorem op_callMF (t:Tmp) (f:FuncId) (caps:List AV) (args:Array Operand) (tys:Array TypeId) {K:ASt→Prop} (h:o.op = .call { callee := .value (.tmp t),args:=args,argTypes:=tys }) (hf:s.get t = .fn (.func f) caps) (hc:z5w P s f (args.toList.map s.ev++caps) o.dst K) (hd : ∀ t,o.dst=some t→t<s.n):z3b P o s K:=by
 refine hc.eff (vals:=fun a=>args.toList.map a.eval++(match a.eval (.tmp t) with | .func _ _ vs=>vs.toList|_ => [])) hd fun L loc a w hr he=>?_
 have h0:=hr.ev (.tmp t) (fun _ _=>trivial)
 simp only [ASt.ev,hf] at h0
 generalize hu:a.eval (.tmp t)=u at h0
 cases h0 with
 | fn _ _ vs hvl hva =>
 refine ⟨?_,by simp [hvl],fun j x v hx hv=>?_⟩
 ·have:=he (args.map a.eval++vs) w
  have e:(args.toList.map a.eval++vs.toList).toArray=args.map a.eval++vs:=by simp
  simp only [e]
  simp [execOp,h,resolve,hu,Deferred.ofValue,invoke,this]
 ·rw [List.getElem?_append] at hx hv
  simp only [List.length_map] at hx hv
  split at hx
  ·rename_i hlt
   rw [if_pos hlt] at hv
   simp only [List.getElem?_map,Option.map_eq_some_iff] at hx hv
   obtain ⟨y,hy,rfl⟩:=hx
   obtain ⟨y',hy',rfl⟩:=hv
   rw [hy] at hy'
   cases hy'
   exact hr.ev y (fun _ _=>trivial)
  ·rename_i hlt
   rw [if_neg hlt] at hv
   have h5:=hva _ x hx
   have h6:vs[j-args.toList.length]? = some v:=by simpa using hv
   rw [Array.getD_eq_getD_getElem?,h6] at h5
   exact h5
end
def qi (xs:List AV) (hp:Hp) (n N:Nat):ASt:=⟨frOf 0 xs,hp,n,N⟩
def FinM (P:Program) (fn:Func) (N:Nat) (Q:Hp→AV→Prop) (e:Exit) (s:ASt):Prop:=(e = .normal∨e = .ret) ∧ ∃ s',zk s s' ∧ s'.N=N ∧ ∃ r,zw P s' fn.results.toList=some r∧Q s'.hp r
theorem MemC.of {P:Program} {f:FuncId} {fn:Func} {c:Code} {xs:List AV} {N:Nat} {hp:Hp} {Q:Hp→AV→Prop} (hf:P.funcs[f]? = some fn) (hb:fn.body=some c) (n:Nat) (hn:xs.length+(fn.ntmps-xs.length)=n) (h3:fn.results.size≤3) (h:T Fence.wide P c (FinM P fn N Q) (qi xs hp n N)):MemC P f N hp xs Q:=fun L loc w vs hh hvs=>by
 have hst:Rel All ⟨L,[]⟩ (qi xs hp n N) loc { tmps:=vs.toArray++Array.replicate (fn.ntmps-vs.toArray.size) undef,defers := [] } w:=by
  refine ⟨rfl,by simp [qi,hvs.1];omega,fun t _=>?_,hh⟩
  unfold ASt.get qi
  rw [z2k,if_pos (Nat.zero_le _),Nat.sub_zero]
  cases hx:xs[t]? with
  | none=>exact .zA _
  | some x =>
   have hlt:=(List.getElem?_eq_some_iff.1 hx).1
   have hv:vs[t]? = some (vs[t]'(by rw [hvs.1];exact hlt)):=List.getElem?_eq_getElem _
   have h1:=hvs.2 t x _ hx hv
   have e:slot { tmps:=vs.toArray++Array.replicate (fn.ntmps-vs.toArray.size) undef,defers := [] } t=vs[t]'(by rw [hvs.1];exact hlt):=by
    unfold slot
    rw [Array.getD_eq_getD_getElem?,Array.getElem?_append,if_pos (by simp [hvs.1,hlt])]
    simp [hv]
   rw [e]
   exact h1
 refine callsIn_wide.1 (callsIn_of_wp_marks (n := 0) hf hb trivial (wpIn_mono (h ⟨L,[]⟩ loc _ w hst) fun e a' w' ⟨s',loc',⟨he,s2,hw,hN,r,hares,hQ⟩,⟨L1,hrel,hlx⟩,hx⟩=>?_))
 obtain ⟨new,e1,hnd,hnew⟩:=hlx.ds
 rw [List.append_nil] at e1
 obtain ⟨l2,hrel2,hx2⟩:=hw L1 loc' a' w' hrel
 have hrel3:=hrel2.shut new fun D hD=>(hnew D hD).2.1
 obtain ⟨v,hrun,hav⟩:=z6d hrel3 fn hares h3
 have hx3:=hx.trans hx2
 have k1:Kp (Dm (fun _=>False) loc) w (z3h new w'):=by
  have k0:Kp (fun k=>Dm (fun _=>False) loc k∨k ∈ new) w (z3h new w'):=(hx3.kp.wide fun k h => .inl h).trans ((z4E new w').wide fun k h => .inr h) fun x hx' => .inl hx'
  exact ⟨k0.os,k0.tape,k0.output,k0.size,fun k hk hn=>k0.block k hk fun hd=>hd.elim hn (fun hd=>by have:=(hnew k hd).1;omega)⟩
 have dm : ∀ k,Dm L l2 k→Dm L1 l2 k:=fun k h=>h.imp (hlx.sub k) id
 have hhp:HRel L N s2.hp l2 (z3h new w'):=by
  rw [← hN]
  exact ⟨fun t o ho=>let ⟨g1,u,g2,g3⟩:=hrel3.hp.at' t o ho;⟨g1,u,g2,g3.mono (Nat.le_refl _) (Kp.refl _ _) (fun k _ h=>dm k h) (fun _ _ _ h=>h) (fun _ _=>rfl)⟩,hrel3.hp.dead,hrel3.hp.apart,fun b hb=>hrel3.hp.inL b (hlx.sub b hb),fun t u b g1 g2 g3=>hrel3.hp.notL t u b g1 g2 (hlx.sub b g3)⟩
 have hleave:LeavesInM Fence.wide 0 P fn a'.tmps (fun e w' => ∃ v loc' hp' r,e = .returned v∧Q hp' r∧HRel L N hp' loc' w' ∧ AR N (Dm L loc') loc' w' r v∧Ext loc w loc' w') a'.defers .returning w':=by
  rw [hrel.defers,e1]
  exact z1w new w' hnd (fun D hD=>(hnew D hD).2.2) ⟨v,hrun,v,l2,s2.hp,r,rfl,hQ,hhp,by rw [← hN];exact hav.mono (Nat.le_refl _) (Kp.refl _ _) (fun k _ h=>dm k h) (fun _ _ _ h=>h),⟨k1,hx3.fresh⟩⟩
 rcases he with rfl|rfl
 ·exact hleave
 ·exact hleave
def z9P (s:ASt) (n:Nat) (hp:Hp):Prop := ∀ t o,hp.lookup t=some o→s.hp.lookup t=some o∧o.okB 0=true∧t<n
theorem z7g {X:Nat→Prop} {L:Lim} {s:ASt} {loc:Nat→Option Value} {a:Act} {w:World} (hr:Rel X L s loc a w) {n:Nat} {hp:Hp} (hps:z9P s n hp) :
  ∃ (LC:Nat→Prop) (locC:Nat→Option Value),HRel LC n hp locC w ∧ ∀ x v,x.okB 0=true→AR s.N (Dm L loc) loc w x v→AR n (Dm LC locC) locC w x v:=by
 let locC:Nat→Option Value:=fun t=>if (hp.lookup t).isSome=true then loc t else none
 let LC:Nat→Prop:=fun b=>L b ∨ ∃ t u,(hp.lookup t).isSome=false∧loc t=some u∧zP u=some b
 have lC : ∀ t u,locC t=some u→(hp.lookup t).isSome=true∧loc t=some u:=fun t u h=>by
  simp only [locC] at h
  split at h
  ·exact ⟨by assumption,h⟩
  ·cases h
 have dC : ∀ b,Dm LC locC b→Dm L loc b:=fun b h=>by
  rcases h with (h|⟨t,u,_,h1,h2⟩)|⟨t,u,h1,h2⟩
  ·exact .inl h
  ·exact .inr ⟨t,u,h1,h2⟩
  ·exact .inr ⟨t,u,(lC t u h1).2,h2⟩
 refine ⟨LC,locC,⟨fun t o ho=>?_,fun t h=>by simp [locC,h],fun t t' u u' b h1 h2=>hr.hp.apart t t' u u' b (lC t u h1).2 (lC t' u' h2).2,fun b hb=>hr.hp.z8s (dC b (.inl hb)),fun t u b h1 h2 h3=>?_⟩,fun x v hx h=>(h.low hx).mono (Nat.zero_le _) (Kp.refl _ _) (fun k _ h=>dC k h) (fun t u h0 _=>by omega)⟩
 ·obtain ⟨h1,h2,h3⟩:=hps t o ho
  obtain ⟨_,u,h4,h5⟩:=hr.hp.at' t o h1
  exact ⟨h3,u,by simp [locC,ho,h4],(h5.low h2).mono (Nat.zero_le _) (Kp.refl _ _) (fun k _ h=>dC k h) (fun t u h0 _=>by omega) (fun _ _=>rfl)⟩
 ·rcases h3 with h3|⟨t',u',h4,h5,h6⟩
  ·exact hr.hp.notL t u b (lC t u h1).2 h2 h3
  ·have:=hr.hp.apart t t' u u' b (lC t u h1).2 h5 h2 h6
   subst this
   rw [(lC t u h1).1] at h4
   cases h4
def z3z (P:Program) (f:FuncId) (n:Nat) (hp:Hp) (xs:List AV) (r:Value):Prop := ∀ L loc w vs,HRel L n hp loc w→ARs n (Dm L loc) loc w xs vs →
 Calls P f vs.toArray w fun e w'=>e = .returned r∧Blw w.heap.size w w'
theorem op_callR {P:Program} {ops:Array Oper} {o:Oper} {s:ASt} (f:FuncId) (args:Array Operand) (tys:Array TypeId) (n:Nat) (hp:Hp) (r:Value) (h:o.op = .call { callee := .value (.func f),args:=args,argTypes:=tys }) (he:Ent P f)
  (hc:z3z P f n hp (args.toList.map s.ev) r) (hps:z9P s n hp) (hok:((args.toList.map s.ev).all (·.okB 0))=true) (hv:r.oneCell' = true):zX P ops o s (.p (.val r)):=fun L loc a w hr=>by
 refine .inr ⟨f,args.map a.eval,?_,?_⟩
 ·have:=he (args.map a.eval) w
  simp [execOp,h,resolve,Act.eval,Deferred.ofValue,invoke,this]
 ·obtain ⟨LC,locC,hh,ha⟩:=z7g hr hps
  have:=hc LC locC w (args.toList.map a.eval) hh ⟨by simp,fun j x v hx hv=>by
   simp only [List.getElem?_map,Option.map_eq_some_iff] at hx hv
   obtain ⟨y,hy,rfl⟩:=hx
   obtain ⟨y',hy',rfl⟩:=hv
   rw [hy] at hy'
   cases hy'
   have hm:y ∈ o.op.operands.toList:=by
    simp only [h,Op.operands,Call.operands,Array.toList_append,List.mem_append]
    exact .inr (List.mem_of_getElem? hy)
   exact ha _ _ (List.all_eq_true.1 hok _ (List.mem_map_of_mem (List.mem_of_getElem? hy))) (hr.ev y (zD hm))⟩
  have e:(args.toList.map a.eval).toArray=args.map a.eval:=by apply Array.ext';simp
  rw [e] at this
  exact this.mono fun e w' ⟨h1,h2⟩=>⟨r,h1,h2,.zV r hv⟩
theorem op_callRF {P:Program} {ops:Array Oper} {o:Oper} {s:ASt} (t:Tmp) (f:FuncId) (args:Array Operand) (tys:Array TypeId) (n:Nat) (hp:Hp) (r:Value) (h:o.op = .call { callee := .value (.tmp t),args:=args,argTypes:=tys }) (hf:s.get t = .fn (.func f) []) (he:Ent P f)
  (hc:z3z P f n hp (args.toList.map s.ev) r) (hps:z9P s n hp) (hok:((args.toList.map s.ev).all (·.okB 0))=true) (hv:r.oneCell' = true):zX P ops o s (.p (.val r)):=fun L loc a w hr=>by
 have h0:=hr.ev (.tmp t) (zD (by simp [h,Op.operands,Call.operands]))
 simp only [ASt.ev,hf] at h0
 generalize hu:a.eval (.tmp t)=u at h0
 cases h0 with
 | fn _ _ vs hvl hva =>
 obtain rfl:vs = #[]:=by simpa using hvl
 refine .inr ⟨f,args.map a.eval,?_,?_⟩
 ·have:=he (args.map a.eval) w
  simp [execOp,h,resolve,hu,Deferred.ofValue,invoke,this]
 ·obtain ⟨LC,locC,hh,ha⟩:=z7g hr hps
  have:=hc LC locC w (args.toList.map a.eval) hh ⟨by simp,fun j x v hx hv=>by
   simp only [List.getElem?_map,Option.map_eq_some_iff] at hx hv
   obtain ⟨y,hy,rfl⟩:=hx
   obtain ⟨y',hy',rfl⟩:=hv
   rw [hy] at hy'
   cases hy'
   have hm:y ∈ o.op.operands.toList:=by
    simp only [h,Op.operands,Call.operands,Array.toList_append,List.mem_append]
    exact .inr (List.mem_of_getElem? hy)
   exact ha _ _ (List.all_eq_true.1 hok _ (List.mem_map_of_mem (List.mem_of_getElem? hy))) (hr.ev y (zD hm))⟩
  have e:(args.toList.map a.eval).toArray=args.map a.eval:=by apply Array.ext';simp
  rw [e] at this
  exact this.mono fun e w' ⟨h1,h2⟩=>⟨r,h1,h2,.zV r hv⟩
theorem z3z.mem {P:Program} {f:FuncId} {n:Nat} {hp:Hp} {xs:List AV} {r:Value} (h:z3z P f n hp xs r) (hv:r.oneCell' = true):MemC P f n hp xs fun hp' r'=>hp' = hp∧r' = .p (.val r):=fun L loc w vs hh ha =>
 (h L loc w vs hh ha).mono fun e w' ⟨h1,h2⟩=>⟨r,loc,hp,_,h1,⟨rfl,rfl⟩,hh.below h2,.zV r hv,.of_below h2⟩
def Plain (hp:Hp):Prop := ∀ t o,hp.lookup t=some o → ∃ (pin:Nat) (ty:TypeId) (us:List Value),o = .boxP (some pin) ty (us.map fun v => .p (.val v))
theorem MemC.read {P:Program} {f:FuncId} {n:Nat} {hp:Hp} {xs:List AV} {r:Value} (h:MemC P f n hp xs fun hp' r'=>hp' = hp∧r' = .p (.val r)) (hpl:Plain hp):z3z P f n hp xs r:=fun L loc w vs hh ha =>
 (h L loc w vs hh ha).mono fun e w' ⟨v,loc',hp',r',h1,⟨h2,h3⟩,hh',hr,hx⟩=>by
  subst h2 h3
  obtain rfl:=hr.val
  refine ⟨h1,⟨⟨hx.kp.os,hx.kp.tape,hx.kp.output,hx.kp.size,fun k hk=>?_⟩⟩⟩
  by_cases hd:Dm (fun _=>False) loc k
  ·rcases hd with hd|⟨t,u,h4,h5⟩
   ·exact hd.elim
   ·cases ho:hp'.lookup t with
    | none=>rw [hh.dead t ho] at h4;cases h4
    | some o =>
     obtain ⟨pin,ty,us,rfl⟩:=hpl t o ho
     obtain ⟨_,u1,g1,b1,arr1,rfl,g2,g3,g4,_,g5⟩:=hh.at' t _ ho
     obtain ⟨_,u2,k1,b2,arr2,rfl,k2,k3,k4,_,k5⟩:=hh'.at' t _ ho
     obtain rfl:=g5 pin rfl
     obtain rfl:=k5 pin rfl
     rw [h4] at g1
     cases g1
     simp only [zP,Option.some.injEq] at h5
     subst h5
     rw [g2,k2]
     have:arr2=arr1:=by
      apply Array.ext
      ·rw [g3,k3]
      ·intro j j1 j2
       have hj:j<us.length:=by rw [k3] at j1;simpa using j1
       have e1:=(g4 j (.p (.val us[j])) (by simp [hj])).val
       have e2:=(k4 j (.p (.val us[j])) (by simp [hj])).val
       rw [Array.getD_eq_getD_getElem?,Array.getElem?_eq_getElem j2] at e1
       rw [Array.getD_eq_getD_getElem?,Array.getElem?_eq_getElem j1] at e2
       simp only [Option.getD_some] at e1 e2
       rw [e1,e2]
     rw [this]
  ·exact hx.kp.block k hk hd
open Classical in
noncomputable def aop (P:Program) (s:ASt):Op→Option AV
 | .move x=>some (s.ev x)
 | .assign x=>some (s.ev x)
 | .pick c x y=>match s.ev c with
  | .p (.val (.bool b))=>some (if b=true then s.ev x else s.ev y)
  | _=>none
 | .load t x=>z4U P s t (s.ev x)
 | .fieldAddr t x f=>z4s P s t f (s.ev x)
 | .indexAddr t x i=>match s.ev i with
  | .p (.val (.int _ n))=>z19 P s t n (s.ev x)
  | _=>none
 | .binOp op t x y _=>match s.ev x,s.ev y with
  | .ptr tag _,.p (.val (.pointer none))=>match op,s.hp.lookup tag,ptTy P t with
   | .eql,some (.boxP _ _ _),some true=>some (.bool false)
   | .neq,some (.boxP _ _ _),some true=>some (.bool true)
   | _,_,_=>none
  | u,v=>abin P op t u v
 | .unOp op _ x=>aun op (s.ev x)
 | .extract x i=>match s.ev x with
  | .tup cs=>cs[i]?
  | _=>none
 | .convert src dst x=>match s.ev x,P.underlying dst with
  | .p (.val (.int _ n)),some (.int k)=>if (P.underlying src).isSome=true then some (.p (.val (.int k (k.wrap n)))) else none
  | .p (.seq _ [[.val (.int .u8 c)]]),some .string=>if z6E P src=true then some (.p (.val (.string (chrB c)))) else none
  | _,_=>none
 | .build t parts=>z9r P s t parts.toList
 | .buildSlice t len parts=>z3r P s t len parts.toList
 | .slice t x lo hi none=>match evI s lo,evI s hi with
  | some li,some ui=>z4q P s t li ui (s.ev x)
  | _,_=>none
 | .field t x f=>z8O P s t f x
 | .index t x i=>z8I P s t x i
 | .makeFunc fn ⟨[]⟩ caps=>some (.fn fn (caps.toList.map s.ev))
 | .call { callee := .builtin .len,args:=⟨[x]⟩,argTypes:=⟨[t]⟩ }=>if isSl P t=true then (alen s (s.ev x)).map fun n => .int n else match P.underlying t,s.ev x with
  | some .string,.p (.val (.string b))=>some (.int b.size)
  | _,_=>none
 | .call { callee := .builtin .max,args:=⟨[x,y]⟩,.. }=>match s.ev x,s.ev y with
  | .p (.val (.int .i64 a)),.p (.val (.int .i64 b))=>some (.int (if a<b then b else a))
  | _,_=>none
 | .nilCheck x=>match s.ev x with
  | .elt r k=>some (.elt r k)
  | .fn (.func f) c=>some (.fn (.func f) c)
  | .ptr t k=>match s.hp.lookup t with
   | some (.boxP _ _ _)=>some (.ptr t k)
   | _=>none
  | _=>none
 | .lookup t x i ok=>match s.ev x with
  | .own tag=>match s.hp.lookup tag,z18 P t,aval (s.ev i) with
   | some (.map _ P' k' _ f),some (k,_,z),some key=>match keyOf P k key with
    | some kl=>if P' = P∧k' = k∧Go.Maps.Keyed P k then some (if ok=true then .tup [cv ((f kl).getD z),.p (.val (.bool (f kl).isSome))] else cv ((f kl).getD z)) else none
    | none=>none
   | _,_,_=>none
  | _=>none
 | _=>none
theorem z3F {P:Program} {ops:Array Oper} {o:Oper} {s:ASt} {av:AV} (h:aop P s o.op=some av):zX P ops o s av:=by
 obtain ⟨dst,op,ty,pos,aft,gd⟩:=o
 simp only at h
 unfold aop at h
 split at h
 ·cases h;exact op_move _ (.inl rfl)
 ·cases h;exact op_move _ (.inr rfl)
 ·split at h
  ·rename_i b hb;cases h;exact op_pick _ _ _ b rfl hb
  ·cases h
 ·exact op_load _ _ _ rfl h
 ·exact op_field _ _ _ _ rfl h
 ·split at h
  ·rename_i k n hi;exact op_index _ _ _ k n _ rfl hi h
  ·cases h
 ·split at h
  ·rename_i tag off hx hy
   split at h
   ·rename_i pin ty cs hlk ht;cases h;exact z7D true _ _ _ _ tag off pin ty cs rfl hx hy hlk ht
   ·rename_i pin ty cs hlk ht;cases h;exact z7D false _ _ _ _ tag off pin ty cs rfl hx hy hlk ht
   ·cases h
  ·exact op_bin _ _ _ _ _ _ rfl h
 ·exact op_un _ _ _ _ rfl h
 ·split at h
  ·rename_i cs hx;exact za0 _ _ _ _ rfl hx h
  ·cases h
 ·split at h
  ·rename_i k' n k hx hd
   split at h
   ·rename_i hs;cases h;exact za5 _ _ _ k k' n rfl hs hd hx
   ·cases h
  ·rename_i m c hx hd
   split at h
   ·rename_i hs;cases h;exact op_convS _ _ _ m c rfl hs hd hx
   ·cases h
  ·cases h
 ·exact op_build _ _ _ rfl h
 ·exact op_buildS _ _ _ _ rfl h
 ·split at h
  ·rename_i li ui h1 h2;exact op_slice _ _ _ _ li ui _ rfl h1 h2 h
  ·cases h
 ·exact op_fieldV _ _ _ _ rfl h
 ·exact op_indexV _ _ _ _ rfl h
 ·cases h;exact z8y _ _ rfl
 ·split at h
  ·rename_i ht
   obtain ⟨n,hn,rfl⟩:=Option.map_eq_some_iff.1 h
   exact op_len _ _ n rfl ht hn
  ·split at h
   ·rename_i b ht hx;cases h;exact op_lenStr _ _ b rfl ht hx
   ·cases h
 ·split at h
  ·rename_i a b hx hy;cases h;exact op_max _ _ _ a b rfl hx hy
  ·cases h
 ·rename_i x
  split at h
  ·rename_i r k hx;cases h;rw [← hx];exact z3n x rfl (.inl ⟨r,k,hx⟩)
  ·rename_i f c hx;cases h;rw [← hx];exact z3n x rfl (.inr (.inl ⟨f,c,hx⟩))
  ·rename_i t k hx
   split at h
   ·rename_i pin ty cs hlk;cases h;rw [← hx];exact z3n x rfl (.inr (.inr ⟨t,k,pin,ty,cs,hx,hlk⟩))
   ·cases h
  ·cases h
 ·split at h
  ·rename_i tag hx
   split at h
   ·rename_i pin P' k' n f k e z key hlk ht hi
    split at h
    ·rename_i kl hk
     split at h
     ·rename_i hc
      obtain ⟨rfl,rfl,hK⟩:=hc
      cases h
      exact z7x _ _ _ _ tag n pin k' e z key kl f rfl ht hx hlk hK hi hk
     ·cases h
    ·cases h
   ·cases h
  ·cases h
 ·cases h
def z4f (o:Oper) (s:ASt):Prop:=match o.dst with
 | some d=>d<s.n
 | none=>True
theorem z4f.h {o:Oper} {s:ASt} (h:z4f o s) : ∀ t,o.dst=some t→t<s.n:=fun t e=>by unfold z4f at h;rw [e] at h;exact h
inductive CallV (P:Program) (s:ASt) (f:FuncId) (xs:List AV) (r:AV):Prop where
 | plain (he:Ent P f) (h:zx P f xs r) (hok:(xs.all (·.okB 0))=true)
 | view (he:Ent P f) (h:zx P f (xs.map (AV.view s)) r) (hok:((xs.map (AV.view s)).all (·.okB 0))=true) (hs:r.scal=true)
 | read (n:Nat) (hp:Hp) (v:Value) (e:r = .p (.val v)) (he:Ent P f) (h:z3z P f n hp xs v) (hps:z9P s n hp) (hok:(xs.all (·.okB 0))=true) (hv:v.oneCell' = true)
 | viewF (x:PV) (e:r = .p x) (he:Ent P f) (h:z8u P f (xs.map (AV.view s)) x) (hok:((xs.map (AV.view s)).all (·.okB 0))=true)
theorem CallV.val {P:Program} {s:ASt} {ops:Array Oper} {o:Oper} {f:FuncId} {args:Array Operand} {tys:Array TypeId} {r:AV} (ho:o.op = .call { callee := .value (.func f),args:=args,argTypes:=tys }) (h:CallV P s f (args.toList.map s.ev) r):zX P ops o s r:=by
 cases h with
 | plain he h hok=>exact op_call f args tys r ho he h hok
 | view he h hok hs =>
  rw [List.map_map] at h hok
  exact op_callV f args tys r ho he h hok hs
 | read n hp v e he h hps hok hv=>rw [e];exact op_callR f args tys n hp v ho he h hps hok hv
 | viewF x e he h hok =>
  rw [List.map_map] at h hok
  rw [e]
  exact op_callVF f args tys x ho he h hok
inductive CallR (P:Program) (s:ASt) (f:FuncId) (caps xs:List AV) (r:AV):Prop where
 | plain (he:Ent P f) (h:zx P f (xs++caps) r) (hok:((xs++caps).all (·.okB 0))=true)
 | read (n:Nat) (hp:Hp) (v:Value) (e:r = .p (.val v)) (e' : caps = []) (he:Ent P f) (h:z3z P f n hp xs v) (hps:z9P s n hp) (hok:(xs.all (·.okB 0))=true) (hv:v.oneCell' = true)
theorem CallR.val {P:Program} {s:ASt} {ops:Array Oper} {o:Oper} {t:Tmp} {f:FuncId} {caps:List AV} {args:Array Operand} {tys:Array TypeId} {r:AV} (ho:o.op = .call { callee := .value (.tmp t),args:=args,argTypes:=tys }) (hf:s.get t = .fn (.func f) caps) (h:CallR P s f caps (args.toList.map s.ev) r):zX P ops o s r:=by
 cases h with
 | plain he h hok=>exact z9q t f caps args tys r ho hf he h hok
 | read n hp v e e' he h hps hok hv =>
  subst e'
  rw [e]
  exact op_callRF t f args tys n hp v ho hf he h hps hok hv
def WO (P:Program) (o:Oper) (s:ASt) (K:ASt→Prop):Prop:=match o.op with
 | .call { callee := .value (.func f),args:=args,.. }=>(∃ r,CallV P s f (args.toList.map s.ev) r∧K (s.put o.dst r))∨z5w P s f (args.toList.map s.ev) o.dst K
 | .call { callee := .value (.tmp t),args:=args,.. }=>match s.get t with
  | .fn (.func f) caps=>(∃ r,(Ent P f∧zx P f (args.toList.map s.ev++caps) r∧((args.toList.map s.ev++caps).all (·.okB 0))=true)∧K (s.put o.dst r))∨z5w P s f (args.toList.map s.ev++caps) o.dst K
  | _=>False
 | .makeMap t none=>match z18 P t with
  | some (k,_,_)=>K ((s.add (.map none P k 0 fun _=>none)).put o.dst (.own s.N))
  | none=>False
 | .lookup t x i ok=>match s.ev x with
  | .own tag=>match s.hp.lookup tag,z18 P t,aval (s.ev i) with
   | some (.map _ P' k' _ f),some (k,_,z),some key=>match keyOf P k key with
    | some kl=>(P' = P∧k' = k∧Go.Maps.Keyed P k)∧K (s.put o.dst (if ok=true then .tup [cv ((f kl).getD z),.p (.val (.bool (f kl).isSome))] else cv ((f kl).getD z)))
    | none=>False
   | some (.amap P' k' _ f _),some (k,_,z),some key=>match keyOf P k key with
    | some kl=>(P' = P∧k' = k∧Go.Maps.Keyed P k)∧K (s.put o.dst (if ok=true then .tup [(f kl).getD (cv z),.p (.val (.bool (f kl).isSome))] else (f kl).getD (cv z)))
    | none=>False
   | _,_,_=>False
  | _=>False
 | .mapUpdate t x i y=>match s.ev x with
  | .own tag=>match s.hp.lookup tag,z18 P t,aval (s.ev i),aval (s.ev y) with
   | some (.map pin P' k' n f),some (k,_,_),some key,some val=>match keyOf P k key with
    | some kl=>(P' = P∧k' = k∧Go.Maps.Keyed P k∧n<maxLen∧o.dst=none)∧K { s with hp:=zF s.hp tag (.map pin P k (n+1) (updF f kl (some val))) }
    | none=>False
   | some (.amap P' k' n f _),some (k,_,_),some key,_=>match keyOf P k key with
    | some kl=>(P' = P∧k' = k∧Go.Maps.Keyed P k∧n<maxLen∧o.dst=none)∧K { s with hp:=zF s.hp tag (.amap P k (n+1) (updA f kl (some (s.ev y))) none) }
    | none=>False
   | _,_,_,_=>False
  | _=>False
 | .mapEntry t x i=>match s.ev x with
  | .own tag=>match s.hp.lookup tag,z18 P t,aval (s.ev i) with
   | some (.amap P' k' n f _),some (k,_,z),some key=>match keyOf P k key with
    | some kl=>(P' = P∧k' = k∧Go.Maps.Keyed P k∧n<maxLen) ∧ ∀ st:Nat,K (ASt.put { s with hp:=zF s.hp tag (.amap P k (n+1) (updA f kl (some ((f kl).getD (cv z)))) (some (st,kl))) } o.dst (.tup [(f kl).getD (cv z),.p (.val (.int .i64 (st:Int)))]))
    | none=>False
   | _,_,_=>False
  | _=>False
 | .entryStore t x i y=>match s.ev x with
  | .own tag=>match s.hp.lookup tag,z18 P t with
   | some (.amap P' k' n f (some (st,kl))),some (k,_,_)=>(P' = P∧k' = k∧Go.Maps.Keyed P k∧n<maxLen∧o.dst=none∧s.ev i = .p (.val (.int .i64 (st:Int))))∧K { s with hp:=zF s.hp tag (.amap P k (n+1) (updA f kl (some (s.ev y))) none) }
   | _,_=>False
  | _=>False
 | .call { callee := .builtin .delete,args:=⟨[x,i]⟩,argTypes:=⟨[t,k0]⟩ }=>match s.ev x with
  | .own tag=>match s.hp.lookup tag,z18 P t,aval (s.ev i) with
   | some (.map pin P' k' n f),some (k,_,_),some key=>match keyOf P k key with
    | some kl=>(P' = P∧k' = k∧k0=k∧Go.Maps.Keyed P k)∧K (ASt.put { s with hp:=zF s.hp tag (.map pin P k n (updF f kl none)) } o.dst (.tup []))
    | none=>False
   | _,_,_=>False
  | _=>False
 | .range t x=>match s.ev x with
  | .own tag=>match s.hp.lookup tag,z18 P t with
   | some (.map _ P' k' n f),some (k,_,_)=>(P' = P∧k' = k) ∧ ∀ b r es ck,z4R P k n f es ck→K (ASt.put { s with hp:=(s.N,.raw (.pointer (some ⟨r,0,none⟩)) (.mapIter (some b) ck #[] ck)) :: zF s.hp tag (.raw (.map (some b)) (.map es ck)),N:=s.N+1 } o.dst (.own s.N))
   | _,_=>False
  | _=>False
 | .next x false=>match s.ev x with
  | .own ti => ∃ (tm r b since c0:Nat) (seen:Array Nat) (es:Array MapEntry) (ck:Nat),(s.hp.lookup ti=some (.raw (.pointer (some ⟨r,0,none⟩)) (.mapIter (some b) since seen c0))∧s.hp.lookup tm=some (.raw (.map (some b)) (.map es ck))∧(∀ x ∈ es.toList,x.born<since)∧since≤c0)∧((lefts es seen).size=0→K (s.put o.dst (.tup [.p (.val (.bool false))]))) ∧ ∀ e ∈ (lefts es seen).toList,K (ASt.put { s with hp:=zF s.hp ti (.raw (.pointer (some ⟨r,0,none⟩)) (.mapIter (some b) since (seen.push e.born) ck)) } o.dst (.tup [.p (.val (.bool true)),cv e.key,cv e.val]))
  | _=>False
 | .entry x=>match s.ev x with
  | .own ti => ∃ (tm r b since:Nat) (seen:Array Nat) (es:Array MapEntry) (ck:Nat) (e:MapEntry),(s.hp.lookup ti=some (.raw (.pointer (some ⟨r,0,none⟩)) (.mapIter (some b) since (seen.push e.born) ck))∧s.hp.lookup tm=some (.raw (.map (some b)) (.map es ck))∧e ∈ es.toList∧(es.toList.map (·.born)).Nodup)∧K (s.put o.dst (.tup [cv e.key,cv e.val]))
  | _=>False
 | .call { callee := .builtin .clear,args:=⟨[x]⟩,argTypes:=⟨[t]⟩ }=>match s.ev x with
  | .suf tag n m=>match s.hp.lookup tag,zW P t with
   | some (.row e n' rows),some (e',m',_)=>match zK P e with
    | some zs=>(n' = n∧e' = e∧m' = n∧m<rows.length)∧K (ASt.put { s with hp:=zF s.hp tag (.row e n (rows.take m++List.replicate (rows.length-m) (zs.map .val))) } o.dst (.tup []))
    | none=>False
   | _,_=>False
  | _=>False
 | .box ty x=>match z0q (s.ev x) with
  | some cs=>K ((s.add (.boxP none ty cs)).put o.dst (.ptr s.N 0))
  | none=>False
 | .alloc ty=>match zK P ty with
  | some zs=>K ((s.add (.boxP none ty (zs.map fun v => .p (.val v)))).put o.dst (.ptr s.N 0))
  | none=>False
 | .store t x y=>match s.ev x with
  | .ptr tag off=>match s.hp.lookup tag with
   | some (.boxP pin ty cs)=>match z0q (s.ev y) with
    | some ys=>(tySz P t=some ys.length∧off+ys.length≤cs.length∧o.dst=none)∧K { s with hp:=zF s.hp tag (.boxP pin ty (qf cs off ys)) }
    | none=>False
   | _=>False
  | .rptr tag n k off=>match s.hp.lookup tag,z0q (s.ev y) with
   | some (.row e n' rows),some ys=>match rows[k]?,z7h ys with
    | some r,some ps=>(n' = n∧tySz P t=some ys.length∧off+ys.length≤n∧o.dst=none)∧K { s with hp:=zF s.hp tag (.row e n (rows.set k (qf r off ps))) }
    | _,_=>False
   | some (.arow e cs),some ys=>match ys with
    | [y1]=>(n=1∧off=0∧k<cs.length∧tySz P t=some 1∧o.dst=none)∧K { s with hp:=zF s.hp tag (.arow e (cs.set k y1)) }
    | _=>False
   | _,_=>False
  | _=>False
 | .makeSlice t x y=>match s.ev x,s.ev y with
  | .p (.val (.int _ l)),.p (.val (.int _ l'))=>match zW P t with
   | some (e,n,bytes)=>match zK P e with
    | some zs=>(l=l' ∧ 0≤l∧l.toNat≤maxLen∧bytes*l.toNat≤140737488355328)∧K ((s.add (.row e n (List.replicate l.toNat (zs.map .val)))).put o.dst (.own s.N))
    | none=>False
   | none=>False
  | _,_=>False
 | .buildSlice t 0 ⟨[]⟩=>match zW P t with
  | some (e,n,_)=>K ((s.add (.row e n [])).put o.dst (.own s.N))
  | none=>False
 | .call { callee := .builtin .append,args:=⟨[x,y]⟩,argTypes:=⟨[ty,ty']⟩ }=>match s.ev x,s.ev y with
  | .own tag,.p (.seq n ys)=>match s.hp.lookup tag,zW P ty with
   | some (.row e m rows),some (e',m',bytes)=>(ty=ty' ∧ e=e' ∧ n=m∧m=m' ∧ rows.length+ys.length≤maxLen∧(rows.length+ys.length)*bytes≤140737488355328)∧K (ASt.put { s.subst tag .zA with hp:=zF (s.subst tag .zA).hp tag (.row e m (rows++ys)) } o.dst (.own tag))
   | _,_=>False
  | .own tag,.p (.val (.string b))=>match s.hp.lookup tag,appS P ty ty' with
   | some (.row e 1 rows),some e'=>(e=e' ∧ rows.length+b.size≤140737488355328)∧K (ASt.put { s.subst tag .zA with hp:=zF (s.subst tag .zA).hp tag (.row e 1 (rows++z0h b.data.toList)) } o.dst (.own tag))
   | _,_=>False
  | .p (.val (.slice none 0 0)),.p (.seq n ys)=>match zW P ty with
   | some (e',m',bytes)=>(ty=ty' ∧ n=m' ∧ ys.length≤maxLen∧ys.length*bytes≤140737488355328)∧K ((s.add (.row e' n ys)).put o.dst (.own s.N))
   | none=>False
  | .suf tag n0 m0,.p (.seq n ys)=>match s.hp.lookup tag,zW P ty with
   | some (.row e m rows),some (e',m',bytes)=>(ty=ty' ∧ e=e' ∧ n0=n∧n=m∧m=m' ∧ 0<ys.length∧m0≤rows.length ∧ 0<rows.length∧rows.length+ys.length≤maxLen∧(rows.length+ys.length)*bytes≤140737488355328)∧K (ASt.put { s.subst tag .zA with hp:=zF (s.subst tag .zA).hp tag (.row e m (rows++ys)) } o.dst (.suf tag n0 m0))∧K ((s.add (.row e m (rows.drop m0++ys))).put o.dst (.own s.N))
   | _,_=>False
  | _,_=>False
 | op=>match aop P s op with
  | some av=>K (s.put o.dst av)
  | none=>False
theorem WO.sound {P:Program} {ops:Array Oper} {Q:Exit→ASt→Prop} {rest:List Oper} {o:Oper} {s:ASt} (hw:z3D ops o s) (hd:z4f o s) (h:WO P o s (TL P ops Q rest)):TL P ops Q (o :: rest) s:=by
 obtain ⟨dst,op,ty,pos,aft,gd⟩:=o
 unfold WO at h
 simp only at h
 split at h
 ·rcases h with ⟨r,h1,h2⟩|h
  ·exact TL.val hw r (h1.val rfl) hd.h h2
  ·exact TL.effG hw (op_callM _ _ _ rfl h hd.h)
 ·split at h
  ·rename_i f caps hf
   rcases h with ⟨r,⟨h1,h2,h3⟩,h4⟩|h
   ·exact TL.val hw r (z9q _ f caps _ _ r rfl hf h1 h2 h3) hd.h h4
   ·exact TL.effG hw (op_callMF _ f caps _ _ rfl hf h hd.h)
  ·exact h.elim
 ·split at h
  ·rename_i k e z ht;exact TL.eff hw (z9O _ k e z rfl ht hd.h) h
  ·exact h.elim
 ·split at h
  ·rename_i tag hx
   split at h
   ·rename_i pin P' k' n f k e z key hlk ht hi
    split at h
    ·rename_i kl hk
     obtain ⟨⟨rfl,rfl,hK⟩,h⟩:=h
     refine TL.val hw _ (z7x _ _ _ _ tag n pin k' e z key kl f rfl ht hx hlk hK hi hk) hd.h h
    ·exact h.elim
   ·rename_i P' k' n f q k e z key hlk ht hi
    split at h
    ·rename_i kl hk
     obtain ⟨⟨rfl,rfl,hK⟩,h⟩:=h
     refine TL.val hw _ (z9Q _ _ _ _ tag n k' e z key kl f q rfl ht hx hlk hK hi hk) hd.h h
    ·exact h.elim
   ·exact h.elim
  ·exact h.elim
 ·split at h
  ·rename_i tag hx
   split at h
   ·rename_i pin P' k' n f k e z key val hlk ht hi hy
    split at h
    ·rename_i kl hk
     obtain ⟨⟨rfl,rfl,hK,hn,hd0⟩,h⟩:=h
     exact TL.eff hw (z7s _ _ _ _ tag n pin k' e z key val kl f rfl ht hx hlk hK hi hk hy hn hd0) h
    ·exact h.elim
   ·rename_i P' k' n f q k e z key hlk ht hi
    split at h
    ·rename_i kl hk
     obtain ⟨⟨rfl,rfl,hK,hn,hd0⟩,h⟩:=h
     exact TL.eff hw (z6g _ _ _ _ tag n k' e z key kl f q rfl ht hx hlk hK hi hk hn hd0) h
    ·exact h.elim
   ·exact h.elim
  ·exact h.elim
 ·split at h
  ·rename_i tag hx
   split at h
   ·rename_i P' k' n f q k e z key hlk ht hi
    split at h
    ·rename_i kl hk
     obtain ⟨⟨rfl,rfl,hK,hn⟩,h⟩:=h
     exact TL.effG hw (z8v _ _ _ tag n k' e z key kl f q rfl ht hx hlk hK hi hk hn hd.h h)
    ·exact h.elim
   ·exact h.elim
  ·exact h.elim
 ·split at h
  ·rename_i tag hx
   split at h
   ·rename_i P' k' n f st kl k e z hlk ht
    obtain ⟨⟨rfl,rfl,hK,hn,hd0,hi⟩,h⟩:=h
    exact TL.eff hw (z6F _ _ _ _ tag n st k' e z kl f rfl ht hx hlk hK hi hn hd0) h
   ·exact h.elim
  ·exact h.elim
 ·split at h
  ·rename_i tag hx
   split at h
   ·rename_i pin P' k' n f k e z key hlk ht hi
    split at h
    ·rename_i kl hk
     obtain ⟨⟨rfl,rfl,rfl,hK⟩,h⟩:=h
     exact TL.eff hw (op_delete _ _ _ _ tag n pin _ e z key kl f rfl rfl ht hx hlk hK hi hk hd.h) h
    ·exact h.elim
   ·exact h.elim
  ·exact h.elim
 ·split at h
  ·rename_i tag hx
   split at h
   ·rename_i pin P' k' n f k e z hlk ht
    obtain ⟨⟨rfl,rfl⟩,h⟩:=h
    exact TL.effG hw (op_range _ _ tag n pin k' e z f rfl ht hx hlk hd.h h)
   ·exact h.elim
  ·exact h.elim
 ·split at h
  ·rename_i ti hx
   obtain ⟨tm,r,b,since,c0,seen,es,ck,⟨h1,h2,h3,h4⟩,h5,h6⟩:=h
   exact TL.effG hw (op_next _ ti tm r b since c0 seen es ck rfl hx h1 h2 h3 h4 hd.h h5 h6)
  ·exact h.elim
 ·split at h
  ·rename_i ti hx
   obtain ⟨tm,r,b,since,seen,es,ck,e,⟨h1,h2,h3,h4⟩,h⟩:=h
   exact TL.val hw _ (op_entry _ ti tm r b since seen es ck e rfl hx h1 h2 h3 h4) hd.h h
  ·exact h.elim
 ·split at h
  ·rename_i tag n m hx
   split at h
   ·rename_i e n' rows e' m' bytes hlk ht
    split at h
    ·rename_i zs hz
     obtain ⟨⟨rfl,rfl,rfl,hm⟩,h⟩:=h
     exact TL.eff hw (op_clear _ _ tag m _ _ bytes zs rows rfl hx hlk ht hz hm hd.h) h
    ·exact h.elim
   ·exact h.elim
  ·exact h.elim
 ·split at h
  ·rename_i cs hc;exact TL.eff hw (op_box _ _ cs rfl hc hd.h) h
  ·exact h.elim
 ·split at h
  ·rename_i zs hz;exact TL.eff hw (z97 _ zs rfl hz hd.h) h
  ·exact h.elim
 ·split at h
  ·rename_i tag off hx
   split at h
   ·rename_i pin ty' cs hlk
    split at h
    ·rename_i ys hy
     obtain ⟨⟨h1,h2,h3⟩,h4⟩:=h
     exact TL.eff hw (z8S _ _ _ tag off pin ty' cs ys rfl hx hlk hy h1 h2 h3) h4
    ·exact h.elim
   ·exact h.elim
  ·rename_i tag n k off hx
   split at h
   ·rename_i e n' rows ys hlk hy
    split at h
    ·rename_i r ps hr hp
     obtain ⟨⟨rfl,h1,h2,h3⟩,h4⟩:=h
     exact TL.eff hw (op_storeR _ _ _ tag n' k off e rows r ys ps rfl hx hlk hr hy hp h1 h2 h3) h4
    ·exact h.elim
   ·rename_i e cs ys hlk hy
    split at h
    ·rename_i y1
     obtain ⟨⟨rfl,rfl,hk,h1,h3⟩,h4⟩:=h
     exact TL.eff hw (op_storeA _ _ _ tag k e cs y1 rfl hx hlk hk hy h1 h3) h4
    ·exact h.elim
   ·exact h.elim
  ·exact h.elim
 ·split at h
  ·rename_i k l k' l' hx hy
   split at h
   ·rename_i e n bytes ht
    split at h
    ·rename_i zs hz
     obtain ⟨⟨rfl,h1,h2,h3⟩,h4⟩:=h
     obtain ⟨m,rfl⟩ : ∃ m:Nat,l=m:=⟨l.toNat,by omega⟩
     simp only [Int.toNat_natCast] at h2 h3 h4
     exact TL.eff hw (z9w _ _ _ k k' e n bytes m zs rfl hx hy ht hz h2 h3 hd.h) h4
    ·exact h.elim
   ·exact h.elim
  ·exact h.elim
 ·split at h
  ·rename_i e n bytes ht
   exact TL.eff hw (z5S _ e n bytes rfl ht hd.h) h
  ·exact h.elim
 ·split at h
  ·rename_i tag n ys hx hy
   split at h
   ·rename_i e m rows e' m' bytes hlk ht
    obtain ⟨⟨rfl,rfl,rfl,rfl,h1,h2⟩,h3⟩:=h
    exact TL.eff hw (op_append _ _ _ tag e n bytes rows ys rfl hx hlk ht hy h1 h2 hd.h) h3
   ·exact h.elim
  ·rename_i tag b hx hy
   split at h
   ·rename_i e rows e' hlk ht
    obtain ⟨⟨rfl,h1⟩,h3⟩:=h
    exact TL.eff hw (z7M _ _ _ _ tag e rows b rfl hx hlk ht hy h1 hd.h) h3
   ·exact h.elim
  ·rename_i n ys hx hy
   split at h
   ·rename_i e' m' bytes ht
    obtain ⟨⟨rfl,rfl,h1,h2⟩,h3⟩:=h
    exact TL.eff hw (z9W _ _ _ e' n bytes ys rfl hx ht hy h1 h2 hd.h) h3
   ·exact h.elim
  ·rename_i tag n0 m0 n ys hx hy
   split at h
   ·rename_i e m rows e' m' bytes hlk ht
    obtain ⟨⟨rfl,rfl,rfl,rfl,rfl,h1,h2,h3,h4,h5⟩,h6,h7⟩:=h
    exact TL.effG hw (z9H _ _ _ tag m0 e _ bytes rows ys rfl hx hlk ht hy h1 h2 h3 h4 h5 hd.h h6 h7)
   ·exact h.elim
  ·exact h.elim
 ·split at h
  ·rename_i av hav;exact TL.val hw av (z3F hav) hd.h h
  ·exact h.elim
def WG (b want:Bool) (yes no:Prop):Prop:=(b=want→yes)∧(b=(!want)→no)
def WS (P:Program) (ds:List (Option Nat)) (o:Oper) (s:ASt) (K:ASt→Prop):Prop:=z4f o s∧match o.guard with
 | none=>WO P o s K
 | some (g,want)=>match ds[g]? with
  | some (some t)=>match s.get t with
   | .p (.val (.bool b))=>WG b want (WO P o (s.put (some t) (.bool want)) K) (K ((s.put (some t) (.bool (!want))).put o.dst (.tup [])))
   | .tup []=>K (s.put o.dst (.tup []))
   | _=>False
  | _=>False
def WL (P:Program) (ds:List (Option Nat)) (Q:ASt→Prop):List Oper→ASt→Prop
 | [],s=>Q s
 | o :: rest,s=>WS P ds o s (WL P ds Q rest)
theorem WO.mono {P:Program} {o:Oper} {s:ASt} {K K' : ASt→Prop} (h : ∀ s,K s→K' s) (k:WO P o s K):WO P o s K':=by
 unfold WO at *
 repeat' (first
  | exact k.elim
  | exact h _ k
  | exact ⟨k.1,h _ k.2⟩
  | exact ⟨k.1,h _ k.2.1,h _ k.2.2⟩
  | exact ⟨k.1,fun st=>h _ (k.2 st)⟩
  | exact let ⟨r,h1,h2⟩:=k;⟨r,h1,h _ h2⟩
  | exact k.imp (fun ⟨r,h1,h2⟩=>⟨r,h1,h _ h2⟩) (z5w.mono h)
  | exact ⟨k.1,fun b r es ck hm=>h _ (k.2 b r es ck hm)⟩
  | exact let ⟨a1,a2,a3,a4,a5,a6,a7,a8,h1,h2,h3⟩:=k;⟨a1,a2,a3,a4,a5,a6,a7,a8,h1,fun e=>h _ (h2 e),fun e he=>h _ (h3 e he)⟩
  | exact let ⟨a1,a2,a3,a4,a5,a6,a7,a8,h1,h2⟩:=k;⟨a1,a2,a3,a4,a5,a6,a7,a8,h1,h _ h2⟩
  | split at k)
theorem WS.mono {P:Program} {ds:List (Option Nat)} {o:Oper} {s:ASt} {K K' : ASt→Prop} (h : ∀ s,K s→K' s) (k:WS P ds o s K):WS P ds o s K':=by
 unfold WS at *
 refine ⟨k.1,?_⟩
 have k2:=k.2
 split at k2
 ·exact WO.mono h k2
 ·split at k2
  ·split at k2
   ·exact ⟨fun e=>WO.mono h (k2.1 e),fun e=>h _ (k2.2 e)⟩
   ·exact h _ k2
   ·exact k2.elim
  ·exact k2.elim
structure Sq (s s' : ASt):Prop where
 hp:s'.hp=s.hp
 n:s'.n=s.n
 N:s'.N=s.N
 get : ∀ t,s'.get t=s.get t
theorem Sq.refl (s:ASt):Sq s s:=⟨rfl,rfl,rfl,fun _=>rfl⟩
theorem Sq.symm {s s' : ASt} (h:Sq s s'):Sq s' s:=⟨h.hp.symm,h.n.symm,h.N.symm,fun t=>(h.get t).symm⟩
theorem Sq.trans {s s' s'' : ASt} (h:Sq s s') (k:Sq s' s''):Sq s s'':=⟨k.hp.trans h.hp,k.n.trans h.n,k.N.trans h.N,fun t=>(k.get t).trans (h.get t)⟩
theorem Sq.put {s s' : ASt} (h:Sq s s') (d:Option Nat) (x:AV):Sq (s.put d x) (s'.put d x):=by
 cases d with
 | none=>exact h
 | some d=>exact ⟨h.hp,h.n,h.N,fun t=>by rw [ASt.get_put,ASt.get_put,h.get]⟩
theorem Sq.same {s:ASt} {t:Nat} {x:AV} (h:s.get t=x):Sq s (s.put (some t) x):=⟨rfl,rfl,rfl,fun k=>by
 rw [ASt.get_put]
 split
 ·rename_i e;rw [e,h]
 ·rfl⟩
theorem Sq.rel {X:Nat→Prop} {L:Lim} {s s' : ASt} {loc:Nat→Option Value} {a:Act} {w:World} (h:Sq s s') (r:Rel X L s loc a w):Rel X L s' loc a w :=
 ⟨r.defers,r.size.trans h.n.symm,fun t ht=>by rw [h.N,h.get];exact r.fr t ht,by rw [h.N,h.hp];exact r.hp⟩
theorem Sq.weak {s s' : ASt} (h:Sq s s'):zk s s':=fun _ loc _ _ r=>⟨loc,h.rel r,Ext.refl _ _⟩
theorem Sq.val {P:Program} {ops:Array Oper} {o:Oper} {s s' : ASt} {av:AV} (h:Sq s s') (k:zX P ops o s av):zX P ops o s' av:=fun L loc a w r=>by
 have:=k L loc a w (h.symm.rel r)
 rw [h.N];exact this
theorem WL.sound {P:Program} {ops:Array Oper} {Q:Exit→ASt→Prop} : ∀ {l:List Oper} {s:ASt},WL P (ops.toList.map (·.dst)) (Q .normal) l s→TL P ops Q l s
 | [],_,h=>TL.nil h
 | o :: rest,s,h=>by
  obtain ⟨hd,h⟩:=h
  split at h
  ·rename_i hg
   exact WO.sound (by simp [z3D,hg]) hd (WO.mono (fun s k=>WL.sound k) h)
  ·rename_i g want hg
   split at h
   ·rename_i t ht
    split at h
    ·rename_i b hb
     have ht' : (ops[g]?).bind (·.dst)=some t:=by
      simp only [List.getElem?_map,Option.map_eq_some_iff,Array.getElem?_toList] at ht
      obtain ⟨o',h1,h2⟩:=ht
      rw [h1];exact h2
     by_cases hbw:b=want
     ·have hw:=(Sq.same (s:=s) (t:=t) (x := .bool want) (by rw [hb,hbw])).weak
      exact TL.weak hw (WO.sound (by simp only [z3D,hg,ht',ASt.get_put,if_true]) (by unfold z4f at hd ⊢;exact hd) (WO.mono (fun s k=>WL.sound k) (h.1 hbw)))
     ·have hbn:b=(!want):=by cases b <;> cases want <;> simp_all
      have hw:=(Sq.same (s:=s) (t:=t) (x := .bool (!want)) (by rw [hb,hbn])).weak
      exact TL.weak hw (TL.skip (by simp only [z1z,hg,ht',ASt.get_put,if_true];exact .inl trivial) (WL.sound (h.2 hbn)) hd.h)
    ·rename_i hb
     have ht' : (ops[g]?).bind (·.dst)=some t:=by
      simp only [List.getElem?_map,Option.map_eq_some_iff,Array.getElem?_toList] at ht
      obtain ⟨o',h1,h2⟩:=ht
      rw [h1];exact h2
     exact TL.skip (by simp only [z1z,hg,ht'];exact .inr hb) (WL.sound h) hd.h
    ·exact h.elim
   ·exact h.elim
theorem WL.step {P:Program} {ds:List (Option Nat)} {Q:ASt→Prop} {o:Oper} {rest:List Oper} {s:ASt} (h : ∀ K:ASt→Prop,(∀ s,WL P ds Q rest s→K s)→WS P ds o s K):WL P ds Q (o :: rest) s:=h _ fun _ h=>h
theorem WL.fin {P:Program} {ds:List (Option Nat)} {Q:ASt→Prop} {s:ASt} (h:Q s):WL P ds Q [] s:=h
theorem T.region' {F:Fence} [FOk F] {P:Program} {Q:Exit→ASt→Prop} {s:ASt} {id:Nat} {l:List Oper} (hd:z2r l=true) (h:WL P (l.map (·.dst)) (Q .normal) l s):T F P (.region id l.toArray false) Q s:=T.region hd (WL.sound (ops:=l.toArray) (by rw [show NQ Q .normal=Q .normal from funext (NQ.normal Q)];simpa using h))
end Go.Proofs.YtdlgoofjechocaaGreatDoor
namespace Go.Proofs.YtdlgoofjechocaaGreatDoor.Dn
open Go.RowKit Go.Sort
def z5k (P:Program) (w:World) (F:World→Value→Prop):Result Next→Prop
 | .ok (.value u) w'=>F w' u ∧ ∃ q,w' = gm w q
 | .ok .skip w'=>w' = w∧F w undef
 | .ok (.enter f args) w'=>w' = w∧Calls P f args w fun e w'' => ∃ u,e = .returned u∧F w'' u ∧ ∃ q,w'' = gm w q
 | _=>False
def z7F (P:Program) (ops:Array Oper) (W:World) (size:Nat) (F:Tmp→World→Value→Prop) (o:Oper):Prop :=
 ∀ d,o.dst=some d → ∀ (b:Act) (p:Regrown),b.tmps.size=size→(∀ x ∈ o.looksAt ops,F x (gm W p) (slot b x)) →
  if Region.wanted o (yielded ops b.tmps)=true then z5k P (gm W p) (F d) ((execOp b.eval o).run P (gm W p)) else F d (gm W p) undef
def relB (ops:Array Oper) (n:Nat) (size:Nat):Bool :=
 (List.range n).all (fun i=>match ops[i]? with
  | none=>false
  | some o=>(match o.dst with|none=>false|some d=>decide (d<size))&&(o.looksAt ops).all (fun x => !(List.range n).any (fun j=>((ops[j]?).bind (·.dst))==some x)||o.after.any (fun e=>Region.binds .any e&&((ops[e.on]?).bind (·.dst))==some x&&decide (e.on<n)))) &&
 Region.noSelect ops&&apartB ops n&&decide (n≤ops.size) &&
 (List.range n).all (fun i=>match ops[i]? with|none=>false|some o=>o.after.all (fun e => !Region.binds .any e||decide (e.on<i))) &&
 (decide (n=ops.size)||(Region.sinkB .any ops n&&Region.chainB .any ops n))&&Region.seqB .any ops (ops.size-n) n (z1f ops.size n)
theorem z8a {P:Program} {Q:Exit→Act→World→Prop} {a:Act} {w:World} {l lt:List Oper} (n:Nat) (F:Tmp→World→Value→Prop) (hB:relB l.toArray n a.tmps.size=true) (ht:l.drop n=lt)
  (mono : ∀ t v w q,F t w v→F t (gm w q) v)
  (start : ∀ t,(∀ i,i<n→((l[i]?).bind (·.dst)) ≠ some t) → ∀ p,F t (gm w.drew p) (slot a t))
  (each : ∀ o ∈ l.take n,z7F P l.toArray w.drew a.tmps.size F o)
  (tail : ∀ (b:Act) (p:Regrown),b.defers=a.defers→b.tmps.size=a.tmps.size→(∀ t,(∀ i,i<n→((l[i]?).bind (·.dst)) ≠ some t)→slot b t=slot a t)→(∀ t,F t (gm w.drew p) (slot b t))→wpList P l.toArray Q lt b (gm w.drew p)) :
  wpAny P .any l.toArray Q l.toArray.size (Array.replicate l.toArray.size false) a w.drew:=by
 subst ht
 simp only [relB,Bool.and_eq_true,decide_eq_true_eq,Bool.or_eq_true] at hB
 obtain ⟨⟨⟨⟨⟨⟨hlook,hsel⟩,hap⟩,hn⟩,hdep⟩,htail⟩,hseq⟩:=hB
 have hsel':=Region.noSelect_spec hsel
 have hdst : ∀ i o,i<n→l.toArray[i]? = some o → ∃ d,o.dst=some d∧d<a.tmps.size:=fun i o hi ho=>by
  have:=List.all_eq_true.1 hlook i (List.mem_range.2 hi)
  rw [ho] at this
  simp only [Bool.and_eq_true] at this
  cases hd:o.dst with
  | none=>simp [hd] at this
  | some d=>simp [hd] at this;exact ⟨d,rfl,this.1⟩
 let I:Array Bool→Act→World→Prop:=fun listed a' w' => ∃ q:Regrown,w' = gm w.drew q∧a'.defers=a.defers∧a'.tmps.size=a.tmps.size∧HeadInv .any l.toArray n listed ∧
  (∀ t,(∀ i,i<n→((l[i]?).bind (·.dst)) ≠ some t)→slot a' t=slot a t) ∧
  (∀ i o d,i<n→l.toArray[i]? = some o→o.dst=some d→listed.getD i false=true→F d w' (slot a' d))
 have sees : ∀ {listed:Array Bool} {a' : Act} {w' : World} {i:Nat} {o:Oper},I listed a' w' → i<n→i ∈ Region.ready .any l.toArray listed→l.toArray[i]? = some o → ∀ x ∈ o.looksAt l.toArray,F x w' (slot a' x):=by
  intro listed a' w' i o ⟨q,hw,_,_,hinv,s1,s2⟩ hi hr ho x hx
  have hl:=List.all_eq_true.1 hlook i (List.mem_range.2 hi)
  rw [ho] at hl
  simp only [Bool.and_eq_true] at hl
  have hl':=List.all_eq_true.1 hl.2 x hx
  simp only [Bool.or_eq_true,Bool.not_eq_true'] at hl'
  rcases hl' with hno|hxq
  ·have hno' : ∀ i,i<n→((l[i]?).bind (·.dst)) ≠ some x:=fun j hj e=>by
    have:=List.any_eq_false.1 hno j (List.mem_range.2 hj)
    simp [e] at this
   rw [s1 x hno',hw]
   exact start x hno' q
  ·obtain ⟨k,hk,he2⟩:=Array.any_eq_true.1 hxq
   simp only [Bool.and_eq_true,beq_iff_eq,decide_eq_true_eq] at he2
   obtain ⟨⟨hb,hdx⟩,hen⟩:=he2
   obtain ⟨_,o2,ho2,hall⟩:=mem_ready.1 hr
   have:o2=o:=Option.some.inj (ho2.symm.trans ho)
   subst this
   have hle:=hall _ (Array.getElem_mem hk) hb
   cases hoe:(l.toArray)[o2.after[k].on]? with
   | none=>rw [hoe] at hdx;cases hdx
   | some oe =>
    rw [hoe] at hdx
    exact s2 _ oe x hen hoe (by simpa using hdx) hle
 have after : ∀ {listed:Array Bool} {a' : Act} {w' w'' : World} {i:Nat} {o:Oper} {d:Tmp} {v:Value},I listed a' w' → i<n→i ∈ Region.ready .any l.toArray listed→l.toArray[i]? = some o→o.dst=some d→d<a.tmps.size →
   (∃ q,w'' = gm w' q)→F d w'' v→I (listed.setIfInBounds i true) (a'.put o.dst v) w'':=by
  intro listed a' w' w'' i o d v ⟨q,hw,hdef,hsz,hinv,s1,s2⟩ hi hr ho hd hdlt ⟨q',hq'⟩ hF
  have hdlt' : d<a'.tmps.size:=hsz ▸ hdlt
  obtain ⟨q2,hq2⟩:=gm_two w.drew q q'
  rw [hd]
  refine ⟨q2,by rw [hq',hw,hq2],hdef,(size_put _ _ _).trans hsz,hinv.set hr hi,?_,?_⟩
  ·intro t ht
   rw [z1B a' d t v hdlt',if_neg]
   ·exact s1 t ht
   ·intro e
    subst e
    exact ht i hi (by rw [← hd];simpa using congrArg (Option.bind · (·.dst)) ho)
  ·intro j o' d' hj ho' hd' hl
   by_cases hij:i=j
   ·subst hij
    have e1:o' = o:=Option.some.inj (ho'.symm.trans ho)
    subst e1
    have e2:d' = d:=Option.some.inj (hd'.symm.trans hd)
    subst e2
    rw [z1B a' d' d' v hdlt',if_pos rfl]
    exact hF
   ·have hne:d' ≠ d:=fun e=>by subst e;exact z8R hap hi hj hij ho ho' (hd.trans hd'.symm)
    rw [getD_set_ne false hij] at hl
    rw [z1B a' d d' v hdlt',if_neg hne,hq']
    exact mono _ _ _ _ (s2 j o' d' hj ho' hd' hl)
 have hstart:I (Array.replicate l.toArray.size false) a w.drew:=by
  refine ⟨_,z8m _,rfl,rfl,⟨by simp,fun j oj _ hl=>(by rw [getD_replicate_false] at hl;cases hl),fun t _ ht=>getD_in (by simpa using ht) (getD_replicate_false _ _)⟩,fun _ _=>rfl,?_⟩
  intro i o d _ _ _ hl;rw [getD_replicate_false] at hl;cases hl
 refine z2L (n:=n) (g:=l.toArray.size-n) I (fun _ _ _ ⟨_,_,_,_,hinv,_⟩=>hinv) (fun listed inv h0=>z4m hn hdep htail inv h0) ?_ ?_ _ _ _ _ ?_ hstart
 ·-- a step
  intro listed a' w' i hI hi hr
  obtain ⟨_,o,ho,_⟩:=mem_ready.1 hr
  have hs:=sees hI hi hr ho
  have hI':=hI
  obtain ⟨q,hw,hdef,hsz,hinv,s1,s2⟩:=hI'
  obtain ⟨d,hd,hdlt⟩:=hdst i o hi ho
  have hmem:o ∈ l.take n:=List.mem_iff_getElem?.2 ⟨i,by rw [List.getElem?_take,if_pos hi];simpa using ho⟩
  have hat:=each o hmem d hd a' q hsz (by rw [← hw];exact hs)
  unfold wpOp
  rw [ho]
  by_cases hwant:Region.wanted o (yielded l.toArray a'.tmps)=true
  ·rw [if_pos hwant] at hat
   simp only [hwant,if_true]
   refine .inl ?_
   unfold Oper.wp
   rw [hw]
   generalize (execOp a'.eval o).run P (gm w.drew q)=res at hat
   cases res with
   | halt x w1=>exact hat.elim
   | ok nx w1 =>
    cases nx <;> simp only [z5k] at hat <;> simp only [Oper.upon]
    case value u =>
     obtain ⟨hF,q1,rfl⟩:=hat
     exact after hI hi hr ho hd hdlt ⟨q1,by rw [hw]⟩ hF
    case skip =>
     obtain ⟨rfl,hF⟩:=hat
     exact after hI hi hr ho hd hdlt ⟨_,by rw [hw];exact z8m _⟩ hF
    case enter f args =>
     obtain ⟨rfl,hc⟩:=hat
     refine hc.mono fun e w2 he=>?_
     obtain ⟨u,rfl,hF,q2,rfl⟩:=he
     exact after hI hi hr ho hd hdlt ⟨q2,by rw [hw]⟩ hF
  ·rw [if_neg hwant] at hat
   have hwant' : Region.wanted o (yielded l.toArray a'.tmps)=false:=by simpa using hwant
   simp only [hwant',Bool.false_eq_true,if_false]
   exact after hI hi hr ho hd hdlt ⟨_,z8m _⟩ (by rw [hw];exact hat)
 ·-- the tail
  intro listed a' w' ⟨q,hw,hdef,hsz,hinv,s1,s2⟩ h0 f hf
  have hl:=z3k hinv h0
  have hgd : ∀ i,i<n→listed.getD i false=true:=by
   intro i hi
   rw [hl]
   have:i<l.length:=by have:=hn;simp at this;omega
   simp [z1f,this,hi]
  have hwl:=tail a' q hdef hsz s1 (fun t=>by
   by_cases ht : ∀ i,i<n→((l[i]?).bind (·.dst)) ≠ some t
   ·rw [s1 t ht];exact start t ht q
   ·have : ∃ i,i<n∧((l[i]?).bind (·.dst))=some t:=by
     refine Classical.byContradiction fun h=>ht fun i hi e=>h ⟨i,hi,e⟩
    obtain ⟨i,hi,e⟩:=this
    cases ho:l[i]? with
    | none=>rw [ho] at e;cases e
    | some o =>
     rw [ho] at e
     rw [← hw]
     exact s2 i o t hi (by simpa using ho) (by simpa using e) (hgd i hi))
  rw [← hw] at hwl
  have hdl:(l.drop n).length=l.toArray.size-n:=by simp
  have:=wpAny_of_seq (md := .any) (Q':=Q) (l.drop n) n listed a' w' (fun j=>by simp [List.getElem?_drop]) (by rw [hdl,hl];exact hseq) hwl
  rw [hdl] at this
  have h2:=z2Q _ (f-(l.toArray.size-n)) _ _ _ this
  rwa [show l.toArray.size-n+(f-(l.toArray.size-n))=f by omega] at h2
 ·-- the fuel
  have:qy (Array.replicate l.toArray.size false) n≤n:=by
   unfold qy
   exact Nat.le_trans (List.length_filter_le _ _) (by simp)
  omega
def FofL:List Tmp→List (World→Value→Prop)→Act→Tmp→World→Value→Prop
 | d :: ds,G :: Gs,a,t,w,v=>if t=d then G w v else FofL ds Gs a t w v
 | _,_,a,t,_,v=>v=slot a t
theorem z2C {a:Act} : ∀ (ds:List Tmp) (Gs:List (World→Value→Prop)),(∀ G ∈ Gs,∀ v w q,G w v→G (gm w q) v) → ∀ t v w q,FofL ds Gs a t w v→FofL ds Gs a t (gm w q) v
 | [],_,_,_,_,_,_,h=>h
 | _ :: _,[],_,_,_,_,_,h=>h
 | d :: ds,G :: Gs,hm,t,v,w,q,h=>by
  simp only [FofL] at h ⊢
  by_cases e:t=d
  ·rw [if_pos e] at h ⊢
   exact hm G (List.mem_cons.2 (.inl rfl)) _ _ _ h
  ·rw [if_neg e] at h ⊢
   exact z2C ds Gs (fun G' h'=>hm G' (List.mem_cons.2 (.inr h'))) t v w q h
theorem z3v {a:Act} : ∀ (ds:List Tmp) (Gs:List (World→Value→Prop)) (t:Tmp) (w:World),t ∉ ds→FofL ds Gs a t w (slot a t)
 | [],_,_,_,_=>rfl
 | _ :: _,[],_,_,_=>rfl
 | d :: ds,G :: Gs,t,w,h=>by
  simp only [FofL]
  rw [if_neg (fun e=>h (by rw [e];exact List.mem_cons.2 (.inl rfl)))]
  exact z3v ds Gs t w (fun h'=>h (List.mem_cons.2 (.inr h')))
def z4u (P:Program) (ops:Array Oper) (W:World) (size:Nat) (F:Tmp→World→Value→Prop):List Oper→Prop
 | []=>True
 | o :: r=>z7F P ops W size F o∧z4u P ops W size F r
theorem z1M {P:Program} {ops:Array Oper} {W:World} {size:Nat} {F:Tmp→World→Value→Prop} : ∀ {l:List Oper},z4u P ops W size F l → ∀ o ∈ l,z7F P ops W size F o
 | [],_,_,ho=>by cases ho
 | x :: r,⟨h1,h2⟩,o,ho=>(List.mem_cons.1 ho).elim (fun e=>e ▸ h1) (fun h'=>z1M h2 o h')
def z2w:List (World→Value→Prop)→Prop
 | []=>True
 | G :: r=>(∀ v w q,G w v→G (gm w q) v)∧z2w r
theorem z1q : ∀ {l:List (World→Value→Prop)},z2w l → ∀ G ∈ l,∀ v w q,G w v→G (gm w q) v
 | [],_,_,ho=>by cases ho
 | x :: r,⟨h1,h2⟩,o,ho=>(List.mem_cons.1 ho).elim (fun e=>e ▸ h1) (fun h'=>z1q h2 o h')
theorem z8W {P:Program} {Q:Exit→Act→World→Prop} {a:Act} {w:World} {l lt lh:List Oper} (n:Nat) (ds:List Tmp) (Gs:List (World→Value→Prop)) (hB:relB l.toArray n a.tmps.size=true) (hd:dstsOf (l.take n)=ds)
  (hh:l.take n=lh) (ht:l.drop n=lt) (mono:z2w Gs) (each:z4u P l.toArray w.drew a.tmps.size (FofL ds Gs a) lh)
  (tail : ∀ (b:Act) (p:Regrown),b.defers=a.defers→b.tmps.size=a.tmps.size→(∀ t,t ∉ ds→slot b t=slot a t)→(∀ t,FofL ds Gs a t (gm w.drew p) (slot b t))→wpList P l.toArray Q lt b (gm w.drew p)) :
  wpAny P .any l.toArray Q l.toArray.size (Array.replicate l.toArray.size false) a w.drew:=by
 subst hh
 have hmem : ∀ t,t ∈ ds ↔ ∃ i,i<n∧((l[i]?).bind (·.dst))=some t:=by
  intro t
  rw [← hd,z5D]
  constructor
  ·rintro ⟨o,ho,e⟩
   obtain ⟨i,hi⟩:=List.mem_iff_getElem?.1 ho
   rw [List.getElem?_take] at hi
   split at hi
   ·rename_i hlt
    exact ⟨i,hlt,by rw [hi];simpa using e⟩
   ·cases hi
  ·rintro ⟨i,hi,e⟩
   cases ho:l[i]? with
   | none=>rw [ho] at e;cases e
   | some o =>
    rw [ho] at e
    exact ⟨o,List.mem_iff_getElem?.2 ⟨i,by rw [List.getElem?_take,if_pos hi];exact ho⟩,by simpa using e⟩
 refine z8a n (FofL ds Gs a) hB ht (z2C ds Gs (z1q mono)) (fun t h p=>z3v ds Gs t _ (fun h'=>?_)) (z1M each) (fun b p h1 h2 h3 h4=>tail b p h1 h2 (fun t h=>h3 t (fun i hi e=>h ((hmem t).2 ⟨i,hi,e⟩))) h4)
 obtain ⟨i,hi,e⟩:=(hmem t).1 h'
 exact h i hi e
end Go.Proofs.YtdlgoofjechocaaGreatDoor.Dn
