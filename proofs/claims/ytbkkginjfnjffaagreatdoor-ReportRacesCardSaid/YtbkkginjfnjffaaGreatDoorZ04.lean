/- Texts As, Bf, Ai, Rd, Aj, Ak, Aq. -/
import Derived.Test.YtbkkginjfnjffaaGreatDoorZ03
set_option maxHeartbeats 32000000
set_option maxRecDepth 100000
set_option linter.unusedSimpArgs false
set_option linter.unusedVariables false
namespace Go.Proofs.YtbkkginjfnjffaaGreatDoor
open Go.RowKit Go.Sort
theorem AO.z2j (t:Nat) (y:AV) (pin:Option Nat) (ty:TypeId) (cs:List AV):AO.sub t y (.boxP pin ty cs) = .boxP pin ty (cs.map (AV.sub t y)):=rfl
theorem AO.z2X (t:Nat) (y:AV) (e n:Nat) (rows:List (List PV)):AO.sub t y (.row e n rows) = .row e n rows:=rfl
theorem AO.z2T (t:Nat) (y:AV) (pin:Option Nat) (P:Program) (k n:Nat) (f:Lit→Option Value):AO.sub t y (.map pin P k n f) = .map pin P k n f:=rfl
theorem AO.z2W (t:Nat) (y:AV) (u:Value) (ob:Obj):AO.sub t y (.raw u ob) = .raw u ob:=rfl
theorem AO.z1h (t:Nat) (y:AV) (l:Nat) (sp:LSpec) (fr:List (Nat × AV)):AO.sub t y (.lrec l sp fr) = .lrec l sp (fr.map fun p=>(p.1,AV.sub t y p.2)):=rfl
theorem AO.z5Y (t:Nat) (y:AV) (e:Nat) (cs:List AV):AO.sub t y (.arow e cs) = .arow e (cs.map (AV.sub t y)):=rfl
theorem AO.sub_amap (t:Nat) (y:AV) (P:Program) (k n:Nat) (f:Lit→Option AV) (q:Option (Nat × Lit)):AO.sub t y (.amap P k n f q) = .amap P k n (fun l=>(f l).map (AV.sub t y)) q:=rfl
theorem AO.z8m (t:Nat) (y:AV) (e m len:Nat) (cs:List AV):AO.sub t y (.afix e m len cs) = .afix e m len (cs.map (AV.sub t y)):=rfl
theorem AO.z0M (n e m len:Nat) (cs:List AV):AO.okB n (.afix e m len cs)=cs.all (AV.okB n):=rfl
theorem AO.z5I (n e:Nat) (cs:List AV):AO.okB n (.arow e cs)=cs.all (AV.okB n):=rfl
theorem AO.zL (n:Nat) (pin:Option Nat) (ty:TypeId) (cs:List AV):AO.okB n (.boxP pin ty cs)=cs.all (AV.okB n):=rfl
theorem AO.z0H (n e m:Nat) (rows:List (List PV)):AO.okB n (.row e m rows)=true:=rfl
theorem AO.z7l (n:Nat) (pin:Option Nat) (P:Program) (k m:Nat) (f:Lit→Option Value):AO.okB n (.map pin P k m f)=true:=rfl
theorem AO.z3B (n:Nat) (u:Value) (ob:Obj):AO.okB n (.raw u ob)=true:=rfl
theorem AO.z0b (n l:Nat) (sp:LSpec) (fr:List (Nat × AV)):AO.okB n (.lrec l sp fr)=fr.all fun p=>AV.okB n p.2:=rfl
def AO.handle:AO→Option Value
 | .boxP (some b) _ _=>some (.pointer (some ⟨b,0,none⟩))
 | .map (some b) _ _ _ _=>some (.map (some b))
 | .raw u _=>some u
 | .lrec l _ _=>some (.func (.yield l) #[] #[])
 | _=>none
theorem OR.handle {N:Nat} {D:Nat→Prop} {loc:Nat→Option Value} {w:World} {u v:Value} {o:AO} (h:OR N D loc w u o) (hv:o.handle=some v):u=v:=by
 cases o with
 | boxP pin ty cs =>
  obtain ⟨b,arr,rfl,_,_,_,_,hp⟩:=h
  cases pin with
  | none=>cases hv
  | some p=>cases hv;rw [hp p rfl]
 | map pin P k n f =>
  obtain ⟨b,D,rfl,_,_,hp⟩:=h
  cases pin with
  | none=>cases hv
  | some p=>cases hv;rw [hp p rfl]
 | raw v' ob=>obtain ⟨b,rfl,_⟩:=h;cases hv;rfl
 | amap P k n f q=>cases hv
 | arow e cs=>cases hv
 | afix e m9 len cs=>cases hv
 | lrec l sp fr=>obtain ⟨rfl,_⟩:=h;cases hv;rfl
 | row e n rows=>cases hv
def Kept (hp hp' : Hp) (t:Nat):Prop:=match hp.lookup t,hp'.lookup t with
 | some o,some o'=>o.handle.isSome=true∧o.handle=o'.handle
 | _,_=>False
theorem Kept.spec {hp hp' : Hp} {t:Nat} (h:Kept hp hp' t) : ∃ o o' v,hp.lookup t=some o∧hp'.lookup t=some o' ∧ o.handle=some v∧o'.handle=some v:=by
 unfold Kept at h
 split at h
 ·rename_i o o' h1 h2
  obtain ⟨v,hv⟩:=Option.isSome_iff_exists.1 h.1
  exact ⟨o,o',v,h1,h2,hv,h.2 ▸ hv⟩
 ·exact h.elim
def AV.keep (n:Nat) (ks:List Nat):AV→AV
 | .own t=>if n≤t∨t ∈ ks then .own t else .zy
 | .ptr t k=>if n≤t∨t ∈ ks then .ptr t k else .zy
 | .rptr t m k j=>if n≤t∨t ∈ ks then .rptr t m k j else .zy
 | .pre t m=>if n≤t∨t ∈ ks then .pre t m else .zy
 | .suf t k m=>if n≤t∨t ∈ ks then .suf t k m else .zy
 | .fn f cs => .fn f (cs.attach.map fun ⟨c,_⟩=>AV.keep n ks c)
 | .agg cs => .agg (cs.attach.map fun ⟨c,_⟩=>AV.keep n ks c)
 | .tup cs => .tup (cs.attach.map fun ⟨c,_⟩=>AV.keep n ks c)
 | x=>x
theorem AV.z1c (n:Nat) (ks:List Nat) (t:Nat):AV.keep n ks (.own t)=if n≤t∨t ∈ ks then .own t else .zy:=by simp [AV.keep]
theorem AV.z0h (n:Nat) (ks:List Nat) (t k:Nat):AV.keep n ks (.ptr t k)=if n≤t∨t ∈ ks then .ptr t k else .zy:=by simp [AV.keep]
theorem AV.z3m (n:Nat) (ks:List Nat) (t m k j:Nat):AV.keep n ks (.rptr t m k j)=if n≤t∨t ∈ ks then .rptr t m k j else .zy:=by simp [AV.keep]
theorem AV.keep_suf (n:Nat) (ks:List Nat) (t k m:Nat):AV.keep n ks (.suf t k m)=if n≤t∨t ∈ ks then .suf t k m else .zy:=by simp [AV.keep]
theorem AV.z4a (n:Nat) (ks:List Nat) (t m:Nat):AV.keep n ks (.pre t m)=if n≤t∨t ∈ ks then .pre t m else .zy:=by simp [AV.keep]
theorem AV.z2c (n:Nat) (ks:List Nat) (f:Fn) (cs:List AV):AV.keep n ks (.fn f cs) = .fn f (cs.map (AV.keep n ks)):=by simp [AV.keep]
theorem AV.z3Y (n:Nat) (ks:List Nat) (cs:List AV):AV.keep n ks (.agg cs) = .agg (cs.map (AV.keep n ks)):=by simp [AV.keep]
theorem AV.z4b (n:Nat) (ks:List Nat) (cs:List AV):AV.keep n ks (.tup cs) = .tup (cs.map (AV.keep n ks)):=by simp [AV.keep]
theorem AV.z5d (n:Nat) (ks:List Nat) (x:PV):AV.keep n ks (.p x) = .p x:=by simp [AV.keep]
theorem AV.z3Z (n:Nat) (ks:List Nat) (r:List PV) (k:Nat):AV.keep n ks (.elt r k) = .elt r k:=by simp [AV.keep]
theorem AV.z3l (n:Nat) (ks:List Nat):AV.keep n ks .cap0 = .cap0:=by simp [AV.keep]
theorem AV.z2d (n:Nat) (ks:List Nat):AV.keep n ks .zy = .zy:=by simp [AV.keep]
theorem AR.keep {n:Nat} {ks:List Nat} {N N' : Nat} {D D' : Nat→Prop} {loc loc' : Nat→Option Value} {w w' : World} {x:AV} {v:Value} (h:AR N D loc w x v) (hN:N≤N') (hk:Kp D w w') (hD : ∀ k,k<w.heap.size→D' k→D k)
  (hl : ∀ t u,t<N→(n≤t∨t ∈ ks)→loc' t=some u→loc t=some u):AR N' D' loc' w' (AV.keep n ks x) v:=by
 induction h with
 | p x v h=>rw [AV.z5d];exact .p x v (h.mono hk hD)
 | elt row off b o f hb hnD hc hr=>rw [AV.z3Z];exact .elt row off b o f (Nat.lt_of_lt_of_le hb hk.size) (fun h=>hnD (hD _ hb h)) (fun j x h1=>(hk.cell hb hnD).trans (hc j x h1)) (fun j x h1=>(hr j x h1).mono hk hD)
 | ptr t off v ht h1 h =>
  rw [AV.z0h]
  split
  ·rename_i e;exact .ptr t off v (Nat.lt_of_lt_of_le ht hN) h1 fun b hb=>h b (hl t _ ht e hb)
  ·exact .zy _
 | rptr t m k j v ht h1 h =>
  rw [AV.z3m]
  split
  ·rename_i e;exact .rptr t m k j v (Nat.lt_of_lt_of_le ht hN) h1 fun b l c hb=>h b l c (hl t _ ht e hb)
  ·exact .zy _
 | own t v ht h1 h =>
  rw [AV.z1c]
  split
  ·rename_i e;exact .own t v (Nat.lt_of_lt_of_le ht hN) h1 fun u hu=>h u (hl t u ht e hu)
  ·exact .zy _
 | pre t m v ht h1 h =>
  rw [AV.z4a]
  split
  ·rename_i e;exact .pre t m v (Nat.lt_of_lt_of_le ht hN) h1 fun b l c hb=>h b l c (hl t _ ht e hb)
  ·exact .zy _
 | suf t k m v ht h1 h =>
  rw [AV.keep_suf]
  split
  ·rename_i e;exact .suf t k m v (Nat.lt_of_lt_of_le ht hN) h1 fun b l c hb=>h b l c (hl t _ ht e hb)
  ·exact .zy _
 | fn f caps vs hlen _ ih =>
  rw [AV.z2c]
  refine .fn f _ vs (by simpa using hlen) fun j x hx=>?_
  simp only [List.getElem?_map,Option.map_eq_some_iff] at hx
  obtain ⟨c,hc,rfl⟩:=hx
  exact ih j c hc
 | agg cs vs hlen _ h1 ih =>
  rw [AV.z3Y]
  refine .agg _ vs (by simpa using hlen) (fun j x hx=>?_) h1
  simp only [List.getElem?_map,Option.map_eq_some_iff] at hx
  obtain ⟨c,hc,rfl⟩:=hx
  exact ih j c hc
 | tup cs vs hlen _ ih =>
  rw [AV.z4b]
  refine .tup _ vs (by simpa using hlen) fun j x hx=>?_
  simp only [List.getElem?_map,Option.map_eq_some_iff] at hx
  obtain ⟨c,hc,rfl⟩:=hx
  exact ih j c hc
 | cap0 a h=>rw [AV.z3l];exact .cap0 a fun x hx=>⟨Nat.lt_of_lt_of_le (h x hx).1 hk.size,fun hd=>(h x hx).2.1 (hD _ (h x hx).1 hd),(h x hx).2.2⟩
 | zy v=>rw [AV.z2d];exact .zy v
def AO.keep (n:Nat) (ks:List Nat):AO→AO
 | .boxP pin ty cs => .boxP pin ty (cs.map (AV.keep n ks))
 | .row e m rows => .row e m rows
 | .map pin P k m f => .map pin P k m f
 | .raw u ob => .raw u ob
 | .lrec l sp fr => .lrec l sp (fr.map fun p=>(p.1,AV.keep n ks p.2))
 | .amap P k m f q => .amap P k m (fun l=>(f l).map (AV.keep n ks)) q
 | .arow e cs => .arow e (cs.map (AV.keep n ks))
 | .afix e m9 len cs => .afix e m9 len (cs.map (AV.keep n ks))
theorem OR.keep {n:Nat} {ks:List Nat} {N N' : Nat} {D D' : Nat→Prop} {loc loc' : Nat→Option Value} {w w' : World} {u:Value} {o:AO} (h:OR N D loc w u o) (hN:N≤N') (hk:Kp D w w') (hD : ∀ k,k<w.heap.size→D' k→D k)
  (hl : ∀ t u,t<N→(n≤t∨t ∈ ks)→loc' t=some u→loc t=some u) (hb : ∀ b,ql u=some b→w'.heap[b]? = w.heap[b]?):OR N' D' loc' w' u (o.keep n ks):=by
 cases o with
 | map pin P k n f =>
  obtain ⟨b,D,rfl,⟨es,ck,h1,h2⟩,h3⟩:=h
  exact ⟨b,D,rfl,⟨es,ck,(hb b rfl).trans h1,h2⟩,h3⟩
 | amap P k n f q =>
  obtain ⟨b,DD,g,rfl,⟨es,ck,h1,h2⟩,h3,h4,h5⟩:=h
  refine ⟨b,DD,g,rfl,⟨es,ck,(hb b rfl).trans h1,h2⟩,h3,fun kl=>⟨fun x hx=>?_,fun hx=>(h4 kl).2 (by simpa using hx)⟩,h5.mono (hb b rfl)⟩
  obtain ⟨x',hx',rfl⟩:=Option.map_eq_some_iff.1 hx
  obtain ⟨v,k1,k2⟩:=(h4 kl).1 x' hx'
  exact ⟨v,k1,k2.keep hN hk hD hl⟩
 | arow e cs =>
  obtain ⟨flat,h1,h3,h4⟩:=h
  refine ⟨flat,by rw [List.length_map];exact qX h1 fun g hg=>hb g (by
   cases u <;> simp [Value.ownBlock] at hg
   rename_i ad _ _
   cases ad <;> simp at hg
   simp [ql,hg]),fun j x hx=>?_,h4⟩
  simp only [List.getElem?_map,Option.map_eq_some_iff] at hx
  obtain ⟨c,hc,rfl⟩:=hx
  obtain ⟨v,h5,h6⟩:=h3 j c hc
  exact ⟨v,h5,h6.keep hN hk hD hl⟩
 | afix e m9 len cs =>
  obtain ⟨flat,h1,h3,h4⟩:=h
  refine ⟨flat,qX h1 fun g hg=>hb g (by
   cases u <;> simp [Value.ownBlock] at hg
   rename_i ad _ _
   cases ad <;> simp at hg
   simp [ql,hg]),fun j x hx=>?_,h4⟩
  simp only [List.getElem?_map,Option.map_eq_some_iff] at hx
  obtain ⟨c,hc,rfl⟩:=hx
  obtain ⟨v,h5,h6⟩:=h3 j c hc
  exact ⟨v,h5,h6.keep hN hk hD hl⟩
 | raw v ob =>
  obtain ⟨b,rfl,h1,h2⟩:=h
  exact ⟨b,rfl,h1,(hb b h1).trans h2⟩
 | lrec l sp fr =>
  obtain ⟨rfl,tmps,h1,h2,h3⟩:=h
  refine ⟨rfl,tmps,(hb l rfl).trans h1,h2,fun t=>?_⟩
  rw [qz]
  have h4:=h3 t
  cases hf:fr.lookup t with
  | none=>exact .zy _
  | some x=>rw [hf] at h4;exact h4.keep hN hk hD hl
 | boxP pin ty cs =>
  obtain ⟨b,arr,rfl,h1,h2,h3,h4⟩:=h
  refine ⟨b,arr,rfl,(hb b rfl).trans h1,by simpa [AO.keep] using h2,fun j x hx=>?_,h4⟩
  simp only [List.getElem?_map,Option.map_eq_some_iff] at hx
  obtain ⟨c,hc,rfl⟩:=hx
  exact (h3 j c hc).keep hN hk hD hl
 | row e n rows =>
  obtain ⟨flat,h1,h2,h3,h4⟩:=h
  refine ⟨flat,qX h1 fun g hg=>hb g (z0u hg),h2,fun k r j x hr hx=>?_,h4⟩
  obtain ⟨v,h5,h6⟩:=h3 k r j x hr hx
  exact ⟨v,h5,h6.mono hk hD⟩
def MemC (P:Program) (f:FuncId) (n:Nat) (hp:Hp) (xs:List AV) (Q:Hp→AV→Prop):Prop := ∀ L loc w vs,HRel L n hp loc w→ARs n (Dm L loc) loc w xs vs →
 Calls P f vs.toArray w fun e w' => ∃ v loc' hp' r,e = .returned v∧Q hp' r∧HRel L n hp' loc' w' ∧ AR n (Dm L loc') loc' w' r v∧Ext loc w loc' w'
def ASt.qh (s:ASt) (n:Nat) (ks:List Nat) (hp' : Hp):ASt := { s with fr:=s.fr.map fun p=>(p.1,p.2.keep n ks),hp:=hp' ++ (s.hp.filter fun p=>decide (n≤p.1)).map fun p=>(p.1,p.2.keep n ks) }
theorem ASt.get_callM (s:ASt) (n:Nat) (ks:List Nat) (hp' : Hp) (t:Nat):(s.qh n ks hp').get t=(s.get t).keep n ks:=by
 simp only [ASt.get,ASt.qh,qz]
 cases s.fr.lookup t <;> simp [AV.z2d]
def Passes (s:ASt) (n:Nat) (hp:Hp):Prop:=n≤s.N∧(∀ p ∈ hp,s.hp.lookup p.1=some p.2∧p.1<n∧p.2.okB n=true) ∧ ∀ p ∈ s.hp,p.1<n→(hp.lookup p.1).isSome=true
theorem z2s {α:Type} (a b:List (Nat × α)) (t:Nat):(a++b).lookup t=(a.lookup t).or (b.lookup t):=by
 induction a with
 | nil=>simp
 | cons p r ih =>
  obtain ⟨j,x⟩:=p
  rw [List.cons_append]
  by_cases e:t=j
  ·subst e;rw [zB,zB];rfl
  ·rw [zo e,zo e,ih]
theorem z6t {α:Type} (l:List (Nat × α)) (n t:Nat):(l.filter fun p=>decide (n≤p.1)).lookup t=if n≤t then l.lookup t else none:=by
 induction l with
 | nil=>simp
 | cons p r ih =>
  obtain ⟨j,x⟩:=p
  by_cases e:t=j
  ·subst e
   by_cases h:n≤t
   ·rw [List.filter_cons,if_pos (by simpa using h),zB,if_pos h,zB]
   ·rw [List.filter_cons,if_neg (by simpa using h),ih,if_neg h,if_neg h]
  ·rw [zo e,← ih,List.filter_cons]
   split
   ·rw [zo e]
   ·rfl
theorem z0Z {α:Type} {l:List (Nat × α)} {t:Nat} {x : α} (h:l.lookup t=some x):(t,x) ∈ l:=by
 induction l with
 | nil=>cases h
 | cons p r ih =>
  obtain ⟨j,y⟩:=p
  by_cases e:t=j
  ·subst e;rw [zB] at h;cases h;exact List.mem_cons.2 (.inl rfl)
  ·rw [zo e] at h;exact List.mem_cons.2 (.inr (ih h))
def MemK (P:Program) (f:FuncId) (n:Nat) (hp:Hp) (xs:List AV) (Q:Hp→AV→Prop):Prop := ∀ L loc w vs,HRel L n hp loc w→ARs n (Dm L loc) loc w xs vs →
 Calls P f vs.toArray w fun e w' => ∃ v hp' r,e = .returned v∧Q hp' r∧HRel L n hp' loc w' ∧ AR n (Dm L loc) loc w' r v∧Ext loc w loc w'
theorem MemK.mem {P:Program} {f:FuncId} {n:Nat} {hp:Hp} {xs:List AV} {Q:Hp→AV→Prop} (h:MemK P f n hp xs Q):MemC P f n hp xs Q:=fun L loc w vs hh ha =>
 (h L loc w vs hh ha).mono fun e w' ⟨v,hp',r,h1,h2,h3,h4,h5⟩=>⟨v,loc,hp',r,h1,h2,h3,h4,h5⟩
theorem z6w {L:Lim} {s:ASt} {loc:Nat→Option Value} {a:Act} {w:World} (hr:Rel All L s loc a w) {n:Nat} {hp:Hp} (hps:Passes s n hp) (ks:List Nat) :
  ∃ (LC:Nat→Prop) (locC:Nat→Option Value),HRel LC n hp locC w∧(∀ x v,x.okB n=true→AR s.N (Dm L loc) loc w x v→AR n (Dm LC locC) locC w x v) ∧
   ∀ (w' : World) (loc' : Nat→Option Value) (hp' : Hp),HRel LC n hp' loc' w' → Ext locC w loc' w' → (∀ t u,t ∈ ks→t<n→loc' t=some u→locC t=some u) →
    ∃ loc2,Rel All L (s.qh n ks hp') loc2 a w' ∧ Ext loc w loc2 w' ∧ ∀ x v,AR n (Dm LC loc') loc' w' x v→AR s.N (Dm L loc2) loc2 w' x v:=by
 obtain ⟨c1,c2,c3⟩:=hps
 let locC:Nat→Option Value:=fun t=>if t<n then loc t else none
 let LC:Nat→Prop:=fun b=>L b ∨ ∃ t u,n≤t∧loc t=some u∧ql u=some b
 have lC : ∀ t u,locC t=some u→t<n∧loc t=some u:=fun t u h=>by
  simp only [locC] at h
  split at h
  ·exact ⟨by assumption,h⟩
  ·cases h
 have dC : ∀ b,Dm LC locC b→Dm L loc b:=fun b h=>by
  rcases h with (h|⟨t,u,_,h1,h2⟩)|⟨t,u,h1,h2⟩
  ·exact .inl h
  ·exact .inr ⟨t,u,h1,h2⟩
  ·exact .inr ⟨t,u,(lC t u h1).2,h2⟩
 have hlook : ∀ t o,hp.lookup t=some o→s.hp.lookup t=some o∧t<n∧o.okB n=true:=fun t o h=>c2 _ (z0Z h)
 have hdead : ∀ t,hp.lookup t=none→locC t=none:=fun t h=>by
  simp only [locC]
  split
  ·rename_i hlt
   refine hr.hp.dead t ?_
   cases ho:s.hp.lookup t with
   | none=>rfl
   | some o=>have:=c3 _ (z0Z ho) hlt;rw [h] at this;cases this
  ·rfl
 refine ⟨LC,locC,⟨fun t o ho=>?_,hdead,fun t t' u u' b h1 h2=>hr.hp.apart t t' u u' b (lC t u h1).2 (lC t' u' h2).2,fun b hb=>hr.hp.z7d (dC b (.inl hb)),fun t u b h1 h2 h3=>?_⟩,fun x v hx h=>(h.low hx).mono (Nat.le_refl _) (Kp.refl _ _) (fun k _ h=>dC k h) (fun t u _ h=>(lC t u h).2),fun w' loc' hp' hh' hx hks=>?_⟩
 ·obtain ⟨h1,h2,h3⟩:=hlook t o ho
  obtain ⟨_,u,h4,h5⟩:=hr.hp.at' t o h1
  exact ⟨h2,u,by simp [locC,h2,h4],(h5.low h3).mono (Nat.le_refl _) (Kp.refl _ _) (fun k _ h=>dC k h) (fun t u _ h=>(lC t u h).2) (fun _ _=>rfl)⟩
 ·rcases h3 with h3|⟨t',u',h4,h5,h6⟩
  ·exact hr.hp.notL t u b (lC t u h1).2 h2 h3
  ·have:=hr.hp.apart t t' u u' b (lC t u h1).2 h5 h2 h6
   have:=(lC t u h1).1
   omega
 ·let loc2:Nat→Option Value:=fun t=>if t<n then loc' t else loc t
  have hge : ∀ t,n≤t→loc' t=none:=fun t h=>hh'.dead t (hh'.z5H h)
  have l2 : ∀ t u,loc2 t=some u→(t<n∧loc' t=some u)∨(n≤t∧loc t=some u):=fun t u h=>by
   simp only [loc2] at h
   split at h
   ·exact .inl ⟨by assumption,h⟩
   ·exact .inr ⟨by omega,h⟩
  have lt' : ∀ t u,loc' t=some u→t<n:=fun t u h=>Nat.lt_of_not_le fun e=>by rw [hge t e] at h;cases h
  have d2 : ∀ b,Dm L loc2 b→Dm LC loc' b:=fun b h=>by
   rcases h with h|⟨t,u,h1,h2⟩
   ·exact .inl (.inl h)
   ·rcases l2 t u h1 with ⟨_,h3⟩|⟨h3,h4⟩
    ·exact .inr ⟨t,u,h3,h2⟩
    ·exact .inl (.inr ⟨t,u,h3,h4,h2⟩)
  have kpL:Kp (Dm L loc) w w':=hx.kp.wide fun b h=>by
   rcases h with h|⟨t,u,h1,h2⟩
   ·exact h.elim
   ·exact .inr ⟨t,u,(lC t u h1).2,h2⟩
  have hD : ∀ k,k<w.heap.size→Dm L loc2 k→Dm L loc k:=fun k hk h=>by
   rcases d2 k h with h|h
   ·exact dC k (.inl h)
   ·rcases hx.fresh k (.inr h) with (h|⟨t,u,h1,h2⟩)|h
    ·exact h.elim
    ·exact .inr ⟨t,u,(lC t u h1).2,h2⟩
    ·omega
  have hl : ∀ t u,t<s.N→(n≤t∨t ∈ ks)→loc2 t=some u→loc t=some u:=fun t u _ hc h=>by
   rcases l2 t u h with ⟨h1,h2⟩|⟨_,h2⟩
   ·rcases hc with hc|hc
    ·omega
    ·exact (lC t u (hks t u hc h1 h2)).2
   ·exact h2
  have hlt : ∀ t,t<n→(s.qh n ks hp').hp.lookup t=hp'.lookup t:=fun t ht=>by
   simp only [ASt.qh]
   rw [z2s,qz,z6t,if_neg (by omega)]
   simp
  have hgt : ∀ t,n≤t→(s.qh n ks hp').hp.lookup t=(s.hp.lookup t).map (AO.keep n ks):=fun t ht=>by
   simp only [ASt.qh]
   rw [z2s,qz,z6t,if_pos ht,hh'.z5H ht]
   simp
  have blk : ∀ t u b,n≤t→loc t=some u→ql u=some b→b<w.heap.size∧w'.heap[b]? = w.heap[b]?:=fun t u b ht h1 h2=>by
   obtain ⟨o,_,ho⟩:=hr.hp.z1k h1
   refine ⟨ho.z0n h2,hx.kp.block b (ho.z0n h2) ?_⟩
   rintro (h|⟨t',u',h3,h4⟩)
   ·exact h
   ·have:=hr.hp.apart t t' u u' b h1 (lC t' u' h3).2 h2 h4
    have:=(lC t' u' h3).1
    omega
  have mix : ∀ t t' u u' b,t<n→n≤t' → loc' t=some u→loc t' = some u' → ql u=some b→ql u' = some b→False:=fun t t' u u' b h1 h2 h3 h4 h5 h6=>by
   rcases hx.fresh b (.inr ⟨t,u,h3,h5⟩) with (h|⟨t2,u2,h7,h8⟩)|h
   ·exact h.elim
   ·have:=hr.hp.apart t2 t' u2 u' b (lC t2 u2 h7).2 h4 h8 h6
    have:=(lC t2 u2 h7).1
    omega
   ·have:=(blk t' u' b h2 h4 h6).1
    omega
  refine ⟨loc2,⟨hr.defers,hr.size,fun t _=>?_,⟨fun t o ho=>?_,fun t ht=>?_,fun t t' u u' b h1 h2 h3 h4=>?_,fun b hb=>Nat.lt_of_lt_of_le (hr.hp.inL b hb) kpL.size,fun t u b h1 h2 h3=>?_⟩⟩,⟨hx.kp.wide fun b h=>?_,fun b h=>?_⟩,fun x v h=>h.mono c1 (Kp.refl _ _) (fun k _ h=>d2 k h) (fun t u ht h=>?_)⟩
  ·rw [ASt.get_callM]
   exact (hr.fr t trivial).keep (Nat.le_refl _) kpL hD hl
  ·rcases Nat.lt_or_ge t n with ht|ht
   ·rw [hlt t ht] at ho
    obtain ⟨h1,u,h2,h3⟩:=hh'.at' t o ho
    exact ⟨Nat.lt_of_lt_of_le h1 c1,u,by simp [loc2,ht,h2],h3.mono c1 (Kp.refl _ _) (fun k _ h=>d2 k h) (fun t u ht h=>by rcases l2 t u h with ⟨_,h⟩|⟨h,_⟩ <;> first|exact h|omega) (fun _ _=>rfl)⟩
   ·rw [hgt t ht] at ho
    obtain ⟨o',h1,rfl⟩:=Option.map_eq_some_iff.1 ho
    obtain ⟨h2,u,h3,h4⟩:=hr.hp.at' t o' h1
    exact ⟨h2,u,by simp [loc2,Nat.not_lt.2 ht,h3],h4.keep (Nat.le_refl _) kpL hD hl fun b hb=>(blk t u b ht h3 hb).2⟩
  ·rcases Nat.lt_or_ge t n with hlt'|hge'
   ·rw [hlt t hlt'] at ht
    simp [loc2,hlt',hh'.dead t ht]
   ·rw [hgt t hge'] at ht
    simp only [Option.map_eq_none_iff] at ht
    simp [loc2,Nat.not_lt.2 hge',hr.hp.dead t ht]
  ·rcases l2 t u h1 with ⟨g1,g2⟩|⟨g1,g2⟩ <;> rcases l2 t' u' h2 with ⟨g3,g4⟩|⟨g3,g4⟩
   ·exact hh'.apart t t' u u' b g2 g4 h3 h4
   ·exact (mix t t' u u' b g1 g3 g2 g4 h3 h4).elim
   ·exact (mix t' t u' u b g3 g1 g4 g2 h4 h3).elim
   ·exact hr.hp.apart t t' u u' b g2 g4 h3 h4
  ·rcases l2 t u h1 with ⟨g1,g2⟩|⟨g1,g2⟩
   ·exact hh'.notL t u b g2 h2 (.inl h3)
   ·exact hr.hp.notL t u b g2 h2 h3
  ·rcases h with h|⟨t,u,h1,h2⟩
   ·exact h.elim
   ·exact .inr ⟨t,u,(lC t u h1).2,h2⟩
  ·rcases h with h|⟨t,u,h1,h2⟩
   ·exact h.elim
   ·rcases l2 t u h1 with ⟨_,h3⟩|⟨_,h3⟩
    ·rcases hx.fresh b (.inr ⟨t,u,h3,h2⟩) with (h|⟨t2,u2,h7,h8⟩)|h
     ·exact h.elim
     ·exact .inl (.inr ⟨t2,u2,(lC t2 u2 h7).2,h8⟩)
     ·exact .inr h
    ·exact .inl (.inr ⟨t,u,h3,h2⟩)
  ·rcases l2 t u h with ⟨_,h⟩|⟨h,_⟩
   ·exact h
   ·omega
theorem z5F {L:Lim} {s:ASt} {loc:Nat→Option Value} {a:Act} {w:World} (hr:Rel All L s loc a w) {n:Nat} {hp:Hp} (hps:Passes s n hp) (ks:List Nat) :
  ∃ (LC:Nat→Prop) (locC:Nat→Option Value),HRel LC n hp locC w∧(∀ x v,x.okB n=true→AR s.N (Dm L loc) loc w x v→AR n (Dm LC locC) locC w x v) ∧
   ∀ (w' : World) (loc' : Nat→Option Value) (hp' : Hp),HRel LC n hp' loc' w' → Ext locC w loc' w' → (∀ t ∈ ks,t<n→Kept hp hp' t) →
    ∃ loc2,Rel All L (s.qh n ks hp') loc2 a w' ∧ Ext loc w loc2 w' ∧ ∀ x v,AR n (Dm LC loc') loc' w' x v→AR s.N (Dm L loc2) loc2 w' x v:=by
 obtain ⟨LC,locC,h1,h2,h3⟩:=z6w hr hps ks
 refine ⟨LC,locC,h1,h2,fun w' loc' hp' hh' hx hks=>h3 w' loc' hp' hh' hx fun t u ht hlt hu=>?_⟩
 obtain ⟨o,o',v,g1,g2,g3,g4⟩:=(hks t ht hlt).spec
 obtain ⟨_,u1,g5,g6⟩:=h1.at' t o g1
 obtain ⟨_,u2,g7,g8⟩:=hh'.at' t o' g2
 rw [hu] at g7;cases g7
 rw [g5,g6.handle g3,g8.handle g4]
section
variable {P:Program} {ops:Array Oper} {o:Oper} {s:ASt}
def z6Q (P:Program) (s:ASt) (f:FuncId) (xs:List AV) (d:Option Nat) (K:ASt→Prop):Prop := ∃ n hp Q ks,Ent P f∧MemC P f n hp xs Q∧Passes s n hp∧(xs.all (·.okB n))=true ∧ ∀ hp' r,Q hp' r→(∀ t ∈ ks,t<n→Kept hp hp' t)∧K ((s.qh n ks hp').put d r)
theorem z6Q.mono {f:FuncId} {xs:List AV} {d:Option Nat} {K K' : ASt→Prop} (h : ∀ s,K s→K' s) (k:z6Q P s f xs d K):z6Q P s f xs d K' :=
 let ⟨n,hp,Q,ks,h1,h2,h3,h4,h5⟩:=k;⟨n,hp,Q,ks,h1,h2,h3,h4,fun hp' r hq=>⟨(h5 hp' r hq).1,h _ (h5 hp' r hq).2⟩⟩
theorem z6Q.eff {f:FuncId} {xs:List AV} {K:ASt→Prop} {vals:Act→List Value} (h:z6Q P s f xs o.dst K) (hd : ∀ t,o.dst=some t→t<s.n)
  (hrun : ∀ L loc a w,Rel All L s loc a w→Ent P f→(execOp a.eval o).run P w = .ok (.enter f (vals a).toArray) w∧ARs s.N (Dm L loc) loc w xs (vals a)):z1R P o s K:=fun L loc a w hr=>by
 obtain ⟨n,hp,Q,ks,hent,hm,hps,hok,hq⟩:=h
 obtain ⟨hx,ha⟩:=hrun L loc a w hr hent
 obtain ⟨LC,locC,h1,h2,h3⟩:=z5F hr hps ks
 unfold Oper.wp
 rw [hx]
 refine (hm LC locC w (vals a) h1 ⟨ha.1,fun j x v hx hv=>h2 x v (List.all_eq_true.1 hok x (List.mem_of_getElem? hx)) (ha.2 j x v hx hv)⟩).mono fun e w' ⟨v,loc',hp',r,he,hQ,g1,g2,g3⟩=>?_
 subst he
 obtain ⟨q1,q2⟩:=hq hp' r hQ
 obtain ⟨loc2,g4,g5,g6⟩:=h3 w' loc' hp' g1 g3 q1
 exact ⟨_,loc2,q2,Rel.put' g4 (s:=s.qh n ks hp') hd (g6 r v g2),g5⟩
def CallN (P:Program) (s:ASt) (f:FuncId) (xs:List AV) (d:Option Nat) (K:ASt→Prop):Prop := ∃ o:AO,Ent P f∧(∀ L loc w vs,HRel L s.N s.hp loc w→ARs s.N (Dm L loc) loc w xs vs →
 Calls P f vs.toArray w fun e w' => ∃ u,e = .returned u∧Blw w.heap.size w w' ∧ (∀ b,ql u=some b→w.heap.size≤b)∧u.oneCell' = true∧OR (s.N+1) (Dm L (qj loc s.N u)) (qj loc s.N u) w' u o)∧K ((s.add o).put d (.own s.N))
theorem CallN.eff {f:FuncId} {xs:List AV} {K:ASt→Prop} {vals:Act→List Value} (h:CallN P s f xs o.dst K) (hd : ∀ t,o.dst=some t→t<s.n)
  (hrun : ∀ L loc a w,Rel All L s loc a w→Ent P f→(execOp a.eval o).run P w = .ok (.enter f (vals a).toArray) w∧ARs s.N (Dm L loc) loc w xs (vals a)):z1R P o s K:=fun L loc a w hr=>by
 obtain ⟨ob,hent,hc,hK⟩:=h
 obtain ⟨hx,ha⟩:=hrun L loc a w hr hent
 unfold Oper.wp
 rw [hx]
 refine (hc L loc w (vals a) hr.hp ha).mono fun e w' ⟨u,he,hb,hu,h1,hor⟩=>?_
 subst he
 refine ⟨_,qj loc s.N u,hK,(hr.add hb u ob hu hor).put' hd (.own s.N _ (Nat.lt_succ_self _) h1 fun z hz=>?_),.add hb _ _ hu⟩
 rw [zQ] at hz;cases hz;rfl
def CallK (P:Program) (s:ASt) (f:FuncId) (xs:List AV) (d:Option Nat) (K:ASt→Prop):Prop := ∃ n hp Q ks,Ent P f∧MemK P f n hp xs Q∧Passes s n hp∧(xs.all (·.okB n))=true ∧ ∀ hp' r,Q hp' r→K ((s.qh n ks hp').put d r)
theorem CallK.eff {f:FuncId} {xs:List AV} {K:ASt→Prop} {vals:Act→List Value} (h:CallK P s f xs o.dst K) (hd : ∀ t,o.dst=some t→t<s.n)
  (hrun : ∀ L loc a w,Rel All L s loc a w→Ent P f→(execOp a.eval o).run P w = .ok (.enter f (vals a).toArray) w∧ARs s.N (Dm L loc) loc w xs (vals a)):z1R P o s K:=fun L loc a w hr=>by
 obtain ⟨n,hp,Q,ks,hent,hm,hps,hok,hq⟩:=h
 obtain ⟨hx,ha⟩:=hrun L loc a w hr hent
 obtain ⟨LC,locC,h1,h2,h3⟩:=z6w hr hps ks
 unfold Oper.wp
 rw [hx]
 refine (hm LC locC w (vals a) h1 ⟨ha.1,fun j x v hx hv=>h2 x v (List.all_eq_true.1 hok x (List.mem_of_getElem? hx)) (ha.2 j x v hx hv)⟩).mono fun e w' ⟨v,hp',r,he,hQ,g1,g2,g3⟩=>?_
 subst he
 obtain ⟨loc2,g4,g5,g6⟩:=h3 w' locC hp' g1 g3 fun _ _ _ _ h=>h
 exact ⟨_,loc2,hq hp' r hQ,Rel.put' g4 (s:=s.qh n ks hp') hd (g6 r v g2),g5⟩
def z3S (P:Program) (s:ASt) (f:FuncId) (xs:List AV) (d:Option Nat) (K:ASt→Prop):Prop:=z6Q P s f xs d K∨CallN P s f xs d K∨CallK P s f xs d K
theorem z3S.mono {f:FuncId} {xs:List AV} {d:Option Nat} {K K' : ASt→Prop} (h : ∀ s,K s→K' s) (k:z3S P s f xs d K):z3S P s f xs d K' :=
 k.imp (z6Q.mono h) fun k=>k.imp (fun ⟨o,h1,h2,h3⟩=>⟨o,h1,h2,h _ h3⟩) fun ⟨n,hp,Q,ks,h1,h2,h3,h4,h5⟩=>⟨n,hp,Q,ks,h1,h2,h3,h4,fun hp' r hq=>h _ (h5 hp' r hq)⟩
theorem z3S.eff {f:FuncId} {xs:List AV} {K:ASt→Prop} {vals:Act→List Value} (h:z3S P s f xs o.dst K) (hd : ∀ t,o.dst=some t→t<s.n)
  (hrun : ∀ L loc a w,Rel All L s loc a w→Ent P f→(execOp a.eval o).run P w = .ok (.enter f (vals a).toArray) w∧ARs s.N (Dm L loc) loc w xs (vals a)):z1R P o s K:=h.elim (fun h=>h.eff hd hrun) fun h=>h.elim (fun h=>h.eff hd hrun) (fun h=>h.eff hd hrun)
theorem op_callM (f:FuncId) (args:Array Operand) (tys:Array TypeId) {K:ASt→Prop} (h:o.op = .call { callee := .value (.func f),args:=args,argTypes:=tys }) (hc:z3S P s f (args.toList.map s.ev) o.dst K) (hd : ∀ t,o.dst=some t→t<s.n):z1R P o s K :=
 hc.eff (vals:=fun a=>args.toList.map a.eval) hd fun L loc a w hr he=>⟨by
  have:=he (args.map a.eval) w
  have e:(args.toList.map a.eval).toArray=args.map a.eval:=by apply Array.ext';simp
  rw [e]
  simp [execOp,h,resolve,Act.eval,Deferred.ofValue,invoke,this],by simp,fun j x v hx hv=>by
  simp only [List.getElem?_map,Option.map_eq_some_iff] at hx hv
  obtain ⟨y,hy,rfl⟩:=hx
  obtain ⟨y',hy',rfl⟩:=hv
  rw [hy] at hy'
  cases hy'
  exact hr.ev y (fun _ _=>trivial)⟩
theorem op_callMF (t:Tmp) (f:FuncId) (caps:List AV) (args:Array Operand) (tys:Array TypeId) {K:ASt→Prop} (h:o.op = .call { callee := .value (.tmp t),args:=args,argTypes:=tys }) (hf:s.get t = .fn (.func f) caps) (hc:z3S P s f (args.toList.map s.ev++caps) o.dst K) (hd : ∀ t,o.dst=some t→t<s.n):z1R P o s K:=by
 refine hc.eff (vals:=fun a=>args.toList.map a.eval++(match a.eval (.tmp t) with | .func _ _ vs=>vs.toList|_ => [])) hd fun L loc a w hr he=>?_
 have h0:=hr.ev (.tmp t) (fun _ _=>trivial)
 simp only [ASt.ev,hf] at h0
 generalize hu:a.eval (.tmp t)=u at h0
 cases h0 with
 | fn _ _ vs hvl hva =>
 refine ⟨?_,by simp [hvl],fun j x v hx hv=>?_⟩
 ·have:=he (args.map a.eval++vs) w
  have e:(args.toList.map a.eval++vs.toList).toArray=args.map a.eval++vs:=by simp
  simp only [e]
  simp [execOp,h,resolve,hu,Deferred.ofValue,invoke,this]
 ·rw [List.getElem?_append] at hx hv
  simp only [List.length_map] at hx hv
  split at hx
  ·rename_i hlt
   rw [if_pos hlt] at hv
   simp only [List.getElem?_map,Option.map_eq_some_iff] at hx hv
   obtain ⟨y,hy,rfl⟩:=hx
   obtain ⟨y',hy',rfl⟩:=hv
   rw [hy] at hy'
   cases hy'
   exact hr.ev y (fun _ _=>trivial)
  ·rename_i hlt
   rw [if_neg hlt] at hv
   have h5:=hva _ x hx
   have h6:vs[j-args.toList.length]? = some v:=by simpa using hv
   rw [Array.getD_eq_getD_getElem?,h6] at h5
   exact h5
end
def z08 (xs:List AV) (hp:Hp) (n N:Nat):ASt:=⟨frOf 0 xs,hp,n,N⟩
def FinM (P:Program) (fn:Func) (N:Nat) (Q:Hp→AV→Prop) (e:Exit) (s:ASt):Prop:=(e = .normal∨e = .ret) ∧ ∃ s',zi s s' ∧ s'.N=N ∧ ∃ r,zI P s' fn.results.toList=some r∧Q s'.hp r
theorem MemC.of {P:Program} {f:FuncId} {fn:Func} {c:Code} {xs:List AV} {N:Nat} {hp:Hp} {Q:Hp→AV→Prop} (hf:P.funcs[f]? = some fn) (hb:fn.body=some c) (n:Nat) (hn:xs.length+(fn.ntmps-xs.length)=n) (h3:fn.results.size≤3) (h:T Fence.wide P c (FinM P fn N Q) (z08 xs hp n N)):MemC P f N hp xs Q:=fun L loc w vs hh hvs=>by
 have hst:Rel All ⟨L,[]⟩ (z08 xs hp n N) loc { tmps:=vs.toArray++Array.replicate (fn.ntmps-vs.toArray.size) undef,defers := [] } w:=by
  refine ⟨rfl,by simp [z08,hvs.1];omega,fun t _=>?_,hh⟩
  unfold ASt.get z08
  rw [z1E,if_pos (Nat.zero_le _),Nat.sub_zero]
  cases hx:xs[t]? with
  | none=>exact .zy _
  | some x =>
   have hlt:=(List.getElem?_eq_some_iff.1 hx).1
   have hv:vs[t]? = some (vs[t]'(by rw [hvs.1];exact hlt)):=List.getElem?_eq_getElem _
   have h1:=hvs.2 t x _ hx hv
   have e:slot { tmps:=vs.toArray++Array.replicate (fn.ntmps-vs.toArray.size) undef,defers := [] } t=vs[t]'(by rw [hvs.1];exact hlt):=by
    unfold slot
    rw [Array.getD_eq_getD_getElem?,Array.getElem?_append,if_pos (by simp [hvs.1,hlt])]
    simp [hv]
   rw [e]
   exact h1
 refine callsIn_wide.1 (callsIn_of_wp_marks (n := 0) hf hb trivial (wpIn_mono (h ⟨L,[]⟩ loc _ w hst) fun e a' w' ⟨s',loc',⟨he,s2,hw,hN,r,hares,hQ⟩,⟨L1,hrel,hlx⟩,hx⟩=>?_))
 obtain ⟨new,e1,hnd,hnew⟩:=hlx.ds
 rw [List.append_nil] at e1
 obtain ⟨l2,hrel2,hx2⟩:=hw L1 loc' a' w' hrel
 have hrel3:=hrel2.shut new fun D hD=>(hnew D hD).2.1
 obtain ⟨v,hrun,hav⟩:=z5V hrel3 fn hares h3
 have hx3:=hx.trans hx2
 have k1:Kp (Dm (fun _=>False) loc) w (z2R new w'):=by
  have k0:Kp (fun k=>Dm (fun _=>False) loc k∨k ∈ new) w (z2R new w'):=(hx3.kp.wide fun k h => .inl h).trans ((z4h new w').wide fun k h => .inr h) fun x hx' => .inl hx'
  exact ⟨k0.os,k0.tape,k0.output,k0.size,fun k hk hn=>k0.block k hk fun hd=>hd.elim hn (fun hd=>by have:=(hnew k hd).1;omega)⟩
 have dm : ∀ k,Dm L l2 k→Dm L1 l2 k:=fun k h=>h.imp (hlx.sub k) id
 have hhp:HRel L N s2.hp l2 (z2R new w'):=by
  rw [← hN]
  exact ⟨fun t o ho=>let ⟨g1,u,g2,g3⟩:=hrel3.hp.at' t o ho;⟨g1,u,g2,g3.mono (Nat.le_refl _) (Kp.refl _ _) (fun k _ h=>dm k h) (fun _ _ _ h=>h) (fun _ _=>rfl)⟩,hrel3.hp.dead,hrel3.hp.apart,fun b hb=>hrel3.hp.inL b (hlx.sub b hb),fun t u b g1 g2 g3=>hrel3.hp.notL t u b g1 g2 (hlx.sub b g3)⟩
 have hleave:LeavesInM Fence.wide 0 P fn a'.tmps (fun e w' => ∃ v loc' hp' r,e = .returned v∧Q hp' r∧HRel L N hp' loc' w' ∧ AR N (Dm L loc') loc' w' r v∧Ext loc w loc' w') a'.defers .returning w':=by
  rw [hrel.defers,e1]
  exact z1d new w' hnd (fun D hD=>(hnew D hD).2.2) ⟨v,hrun,v,l2,s2.hp,r,rfl,hQ,hhp,by rw [← hN];exact hav.mono (Nat.le_refl _) (Kp.refl _ _) (fun k _ h=>dm k h) (fun _ _ _ h=>h),⟨k1,hx3.fresh⟩⟩
 rcases he with rfl|rfl
 ·exact hleave
 ·exact hleave
def z8u (s:ASt) (n:Nat) (hp:Hp):Prop := ∀ t o,hp.lookup t=some o→s.hp.lookup t=some o∧o.okB 0=true∧t<n
theorem z6G {X:Nat→Prop} {L:Lim} {s:ASt} {loc:Nat→Option Value} {a:Act} {w:World} (hr:Rel X L s loc a w) {n:Nat} {hp:Hp} (hps:z8u s n hp) :
  ∃ (LC:Nat→Prop) (locC:Nat→Option Value),HRel LC n hp locC w ∧ ∀ x v,x.okB 0=true→AR s.N (Dm L loc) loc w x v→AR n (Dm LC locC) locC w x v:=by
 let locC:Nat→Option Value:=fun t=>if (hp.lookup t).isSome=true then loc t else none
 let LC:Nat→Prop:=fun b=>L b ∨ ∃ t u,(hp.lookup t).isSome=false∧loc t=some u∧ql u=some b
 have lC : ∀ t u,locC t=some u→(hp.lookup t).isSome=true∧loc t=some u:=fun t u h=>by
  simp only [locC] at h
  split at h
  ·exact ⟨by assumption,h⟩
  ·cases h
 have dC : ∀ b,Dm LC locC b→Dm L loc b:=fun b h=>by
  rcases h with (h|⟨t,u,_,h1,h2⟩)|⟨t,u,h1,h2⟩
  ·exact .inl h
  ·exact .inr ⟨t,u,h1,h2⟩
  ·exact .inr ⟨t,u,(lC t u h1).2,h2⟩
 refine ⟨LC,locC,⟨fun t o ho=>?_,fun t h=>by simp [locC,h],fun t t' u u' b h1 h2=>hr.hp.apart t t' u u' b (lC t u h1).2 (lC t' u' h2).2,fun b hb=>hr.hp.z7d (dC b (.inl hb)),fun t u b h1 h2 h3=>?_⟩,fun x v hx h=>(h.low hx).mono (Nat.zero_le _) (Kp.refl _ _) (fun k _ h=>dC k h) (fun t u h0 _=>by omega)⟩
 ·obtain ⟨h1,h2,h3⟩:=hps t o ho
  obtain ⟨_,u,h4,h5⟩:=hr.hp.at' t o h1
  exact ⟨h3,u,by simp [locC,ho,h4],(h5.low h2).mono (Nat.zero_le _) (Kp.refl _ _) (fun k _ h=>dC k h) (fun t u h0 _=>by omega) (fun _ _=>rfl)⟩
 ·rcases h3 with h3|⟨t',u',h4,h5,h6⟩
  ·exact hr.hp.notL t u b (lC t u h1).2 h2 h3
  ·have:=hr.hp.apart t t' u u' b (lC t u h1).2 h5 h2 h6
   subst this
   rw [(lC t u h1).1] at h4
   cases h4
def z4k (P:Program) (f:FuncId) (n:Nat) (hp:Hp) (xs:List AV) (r:Value):Prop := ∀ L loc w vs,HRel L n hp loc w→ARs n (Dm L loc) loc w xs vs →
 Calls P f vs.toArray w fun e w'=>e = .returned r∧Blw w.heap.size w w'
theorem op_callR {P:Program} {ops:Array Oper} {o:Oper} {s:ASt} (f:FuncId) (args:Array Operand) (tys:Array TypeId) (n:Nat) (hp:Hp) (r:Value) (h:o.op = .call { callee := .value (.func f),args:=args,argTypes:=tys }) (he:Ent P f)
  (hc:z4k P f n hp (args.toList.map s.ev) r) (hps:z8u s n hp) (hok:((args.toList.map s.ev).all (·.okB 0))=true) (hv:r.oneCell' = true):qB P ops o s (.p (.val r)):=fun L loc a w hr=>by
 refine .inr ⟨f,args.map a.eval,?_,?_⟩
 ·have:=he (args.map a.eval) w
  simp [execOp,h,resolve,Act.eval,Deferred.ofValue,invoke,this]
 ·obtain ⟨LC,locC,hh,ha⟩:=z6G hr hps
  have:=hc LC locC w (args.toList.map a.eval) hh ⟨by simp,fun j x v hx hv=>by
   simp only [List.getElem?_map,Option.map_eq_some_iff] at hx hv
   obtain ⟨y,hy,rfl⟩:=hx
   obtain ⟨y',hy',rfl⟩:=hv
   rw [hy] at hy'
   cases hy'
   have hm:y ∈ o.op.operands.toList:=by
    simp only [h,Op.operands,Call.operands,Array.toList_append,List.mem_append]
    exact .inr (List.mem_of_getElem? hy)
   exact ha _ _ (List.all_eq_true.1 hok _ (List.mem_map_of_mem (List.mem_of_getElem? hy))) (hr.ev y (zJ hm))⟩
  have e:(args.toList.map a.eval).toArray=args.map a.eval:=by apply Array.ext';simp
  rw [e] at this
  exact this.mono fun e w' ⟨h1,h2⟩=>⟨r,h1,h2,.qC r hv⟩
theorem op_callRF {P:Program} {ops:Array Oper} {o:Oper} {s:ASt} (t:Tmp) (f:FuncId) (args:Array Operand) (tys:Array TypeId) (n:Nat) (hp:Hp) (r:Value) (h:o.op = .call { callee := .value (.tmp t),args:=args,argTypes:=tys }) (hf:s.get t = .fn (.func f) []) (he:Ent P f)
  (hc:z4k P f n hp (args.toList.map s.ev) r) (hps:z8u s n hp) (hok:((args.toList.map s.ev).all (·.okB 0))=true) (hv:r.oneCell' = true):qB P ops o s (.p (.val r)):=fun L loc a w hr=>by
 have h0:=hr.ev (.tmp t) (zJ (by simp [h,Op.operands,Call.operands]))
 simp only [ASt.ev,hf] at h0
 generalize hu:a.eval (.tmp t)=u at h0
 cases h0 with
 | fn _ _ vs hvl hva =>
 obtain rfl:vs = #[]:=by simpa using hvl
 refine .inr ⟨f,args.map a.eval,?_,?_⟩
 ·have:=he (args.map a.eval) w
  simp [execOp,h,resolve,hu,Deferred.ofValue,invoke,this]
 ·obtain ⟨LC,locC,hh,ha⟩:=z6G hr hps
  have:=hc LC locC w (args.toList.map a.eval) hh ⟨by simp,fun j x v hx hv=>by
   simp only [List.getElem?_map,Option.map_eq_some_iff] at hx hv
   obtain ⟨y,hy,rfl⟩:=hx
   obtain ⟨y',hy',rfl⟩:=hv
   rw [hy] at hy'
   cases hy'
   have hm:y ∈ o.op.operands.toList:=by
    simp only [h,Op.operands,Call.operands,Array.toList_append,List.mem_append]
    exact .inr (List.mem_of_getElem? hy)
   exact ha _ _ (List.all_eq_true.1 hok _ (List.mem_map_of_mem (List.mem_of_getElem? hy))) (hr.ev y (zJ hm))⟩
  have e:(args.toList.map a.eval).toArray=args.map a.eval:=by apply Array.ext';simp
  rw [e] at this
  exact this.mono fun e w' ⟨h1,h2⟩=>⟨r,h1,h2,.qC r hv⟩
theorem z4k.mem {P:Program} {f:FuncId} {n:Nat} {hp:Hp} {xs:List AV} {r:Value} (h:z4k P f n hp xs r) (hv:r.oneCell' = true):MemC P f n hp xs fun hp' r'=>hp' = hp∧r' = .p (.val r):=fun L loc w vs hh ha =>
 (h L loc w vs hh ha).mono fun e w' ⟨h1,h2⟩=>⟨r,loc,hp,_,h1,⟨rfl,rfl⟩,hh.below h2,.qC r hv,.of_below h2⟩
def Plain (hp:Hp):Prop := ∀ t o,hp.lookup t=some o → ∃ (pin:Nat) (ty:TypeId) (us:List Value),o = .boxP (some pin) ty (us.map fun v => .p (.val v))
theorem MemC.read {P:Program} {f:FuncId} {n:Nat} {hp:Hp} {xs:List AV} {r:Value} (h:MemC P f n hp xs fun hp' r'=>hp' = hp∧r' = .p (.val r)) (hpl:Plain hp):z4k P f n hp xs r:=fun L loc w vs hh ha =>
 (h L loc w vs hh ha).mono fun e w' ⟨v,loc',hp',r',h1,⟨h2,h3⟩,hh',hr,hx⟩=>by
  subst h2 h3
  obtain rfl:=hr.val
  refine ⟨h1,⟨⟨hx.kp.os,hx.kp.tape,hx.kp.output,hx.kp.size,fun k hk=>?_⟩⟩⟩
  by_cases hd:Dm (fun _=>False) loc k
  ·rcases hd with hd|⟨t,u,h4,h5⟩
   ·exact hd.elim
   ·cases ho:hp'.lookup t with
    | none=>rw [hh.dead t ho] at h4;cases h4
    | some o =>
     obtain ⟨pin,ty,us,rfl⟩:=hpl t o ho
     obtain ⟨_,u1,g1,b1,arr1,rfl,g2,g3,g4,_,g5⟩:=hh.at' t _ ho
     obtain ⟨_,u2,k1,b2,arr2,rfl,k2,k3,k4,_,k5⟩:=hh'.at' t _ ho
     obtain rfl:=g5 pin rfl
     obtain rfl:=k5 pin rfl
     rw [h4] at g1
     cases g1
     simp only [ql,Option.some.injEq] at h5
     subst h5
     rw [g2,k2]
     have:arr2=arr1:=by
      apply Array.ext
      ·rw [g3,k3]
      ·intro j j1 j2
       have hj:j<us.length:=by rw [k3] at j1;simpa using j1
       have e1:=(g4 j (.p (.val us[j])) (by simp [hj])).val
       have e2:=(k4 j (.p (.val us[j])) (by simp [hj])).val
       rw [Array.getD_eq_getD_getElem?,Array.getElem?_eq_getElem j2] at e1
       rw [Array.getD_eq_getD_getElem?,Array.getElem?_eq_getElem j1] at e2
       simp only [Option.getD_some] at e1 e2
       rw [e1,e2]
     rw [this]
  ·exact hx.kp.block k hk hd
def z0T (P:Program) (s:ASt) (t:TypeId) (len:Nat) (parts:List (Nat × Operand)):Option (TypeId × Nat × List AV):=match P.underlying t,zY P t with
 | some (.slice e),some (e',n',_)=>match zN P e,qy P e with
  | some zs,some n=>if zs.length=n ∧ 0<n∧len*n≤16777216∧len≤maxLen∧n=n' then match z2I (fun i=>some (i*n,n)) ((List.range (len*n)).map fun j => .p (.val (zs.getD (j % n) undef))) (parts.map fun p=>(p.1,s.ev p.2)) with
   | some cs=>some (e',n,cs)
   | none=>none
   else none
  | _,_=>none
 | _,_=>none
section
variable {P:Program} {ops:Array Oper} {o:Oper} {s:ASt}
theorem z8P (t:TypeId) (len:Nat) (parts:Array (Nat × Operand)) (e0 n0:Nat) (cs0:List AV) (h:o.op = .buildSlice t len parts) (hl:z0T P s t len parts.toList=some (e0,n0,cs0)) (hd : ∀ t,o.dst=some t→t<s.n):z0L P o s ((s.add (.afix e0 n0 len cs0)).put o.dst (.own s.N)):=fun L loc a w hr=>by
 have hev : ∀ (j i:Nat) (x:AV) (i' : Nat) (v:Value),(parts.toList.map fun p=>(p.1,s.ev p.2))[j]? = some (i,x)→(parts.map fun (i,x)=>(i,a.eval x)).toList[j]? = some (i',v)→i=i' ∧ AR s.N (Dm L loc) loc w x v:=fun j i x i' v h1 h2=>by
  simp only [Array.toList_map,List.getElem?_map,Option.map_eq_some_iff] at h1 h2
  obtain ⟨p,hp,e1⟩:=h1
  obtain ⟨p',hp',e2⟩:=h2
  rw [hp] at hp'
  cases hp'
  cases e1
  cases e2
  exact ⟨rfl,hr.ev p.2 (fun _ _=>trivial)⟩
 have hlen:(parts.map fun (i,x)=>(i,a.eval x)).toList.length=(parts.toList.map fun p=>(p.1,s.ev p.2)).length:=by simp
 unfold z0T at hl
 split at hl
 ·rename_i e e' n' bytes hu ht
  obtain ⟨i0,z0,hu0,hi0,_⟩:=(z0g ht).h
  split at hl
  ·rename_i zs n hz hs
   split at hl
   ·rename_i hcond
    obtain ⟨hzl,hn0,hmax,hml,hnn⟩:=hcond
    subst hnn
    split at hl
    ·rename_i cs hf
     cases hl
     rw [hu0] at hu
     cases hu
     obtain ⟨i,z,hi,hiz,hzc,hone⟩:=z0j hz
     have hzsz:z.cells.size=n0:=by rw [← hzl,← hzc];simp
     have hz0:Cs s.N (Dm L loc) loc w ((List.range (len*n0)).map fun j => .p (.val (zs.getD (j % n0) undef))) ((Array.range (len*n0)).map fun j=>z.cells[j % z.cells.size]!):=by
      have e1 : ∀ j,z.cells[j % z.cells.size]! = zs.getD (j % n0) undef:=fun j=>by
       have:j % n0<z.cells.size:=by rw [hzsz];exact Nat.mod_lt _ hn0
       rw [hzsz,getElem!_pos z.cells _ this,← hzc,List.getD_eq_getElem?_getD,Array.getElem?_toList,Array.getElem?_eq_getElem this]
       rfl
      have e2:(Array.range (len*n0)).map (fun j=>z.cells[j % z.cells.size]!)=((List.range (len*n0)).map fun j=>zs.getD (j % n0) undef).toArray:=by
       apply Array.ext'
       simp [e1]
      rw [e2]
      have:=Cs.zero s.N (Dm L loc) loc w (vs:=((List.range (len*n0)).map fun j=>zs.getD (j % n0) undef).toArray) (fun v hv=>by
       obtain ⟨j,_,rfl⟩:=List.mem_map.1 (show v ∈ (List.range (len*n0)).map (fun j=>zs.getD (j % n0) undef) from hv)
       have:j % n0<zs.length:=by rw [hzl];exact Nat.mod_lt _ hn0
       rw [List.getD_eq_getElem?_getD,List.getElem?_eq_getElem this]
       exact hone _ (List.getElem_mem this))
      simpa [List.map_map,Function.comp_def] using this
     obtain ⟨us',h1,h2⟩:=z3w hlen hev hz0 hf
     obtain ⟨i',hi',his⟩:=Option.map_eq_some_iff.1 hs
     rw [hi] at hi'
     cases hi'
     have hrun:(Instr.buildSlice t len (parts.map fun (i,x)=>(i,a.eval x))).run P w = .ok (.slice (some ⟨w.heap.size,0,none⟩) len len) (w.alloc (.cells us' e0)):=by
      have hm : ¬ (len*n0 > 2 ^ 24):=by omega
      have hnr : ∀ c:Array Value,(newRow e0 c).run P w = .ok ⟨w.heap.size,0,none⟩ (w.alloc (.cells c e0)):=fun c=>by simp [newRow]
      unfold Instr.buildSlice
      by_cases h0:len*n0=0
      ·have e3:(Array.range (len*n0)).map (fun j=>z.cells[j % z.cells.size]!)=(Array.range (len*n0)).map (fun j=>(#[] : Array Value)[j % (#[] : Array Value).size]!):=by rw [h0];apply Array.ext';simp
       rw [e3] at h1
       simp only [Sem.run_bind,run_underlying hu0,Result.andThen_ok,sizeOf,typeInfo,run_program,hi,his,Sem.run_pure,if_neg hm,if_pos h0,h1,hnr]
      ·simp only [Sem.run_bind,run_underlying hu0,Result.andThen_ok,sizeOf,typeInfo,run_program,hi,his,Sem.run_pure,if_neg hm,if_neg h0,zeroValue,hiz,h1,hnr]
     have hbl:Blw w.heap.size w (w.alloc (.cells us' e0)):=(Blw.refl _ _).alloc (Nat.le_refl _) _
     have hcl:cs0.length=len*n0:=by
      have : ∀ (ps:List (Nat × AV)) (c c' : List AV),z2I (fun i=>some (i*n0,n0)) c ps=some c' → c'.length=c.length:=by
       intro ps
       induction ps with
       | nil=>intro c c' h;cases h;rfl
       | cons p r ih =>
        intro c c' h
        obtain ⟨k,x⟩:=p
        simp only [z2I] at h
        split at h
        ·split at h
         ·rename_i hc
          rw [ih _ _ h,qY hc.2]
         ·cases h
        ·cases h
      rw [this _ _ _ hf];simp
     have hub : ∀ b,ql (.slice (some ⟨w.heap.size,0,none⟩) len len)=some b→w.heap.size≤b:=fun b e=>by cases e;exact Nat.le_refl _
     have hus:us'.toList.length=len*n0:=by rw [Array.length_toList,h2.1,hcl]
     have ho:OR (s.N+1) (Dm L (qj loc s.N (.slice (some ⟨w.heap.size,0,none⟩) len len))) (qj loc s.N (.slice (some ⟨w.heap.size,0,none⟩) len len)) (w.alloc (.cells us' e0)) (.slice (some ⟨w.heap.size,0,none⟩) len len) (.afix e0 n0 len cs0):=by
      refine ⟨us'.toList,⟨hus,.inr ⟨w.heap.size,len,_,rfl,Nat.zero_le _,qR w _ _ rfl,Nat.le_refl _,hml,by rw [← Array.length_toList,hus],?_⟩⟩,fun j x hx=>?_,fun v hv=>?_⟩
      ·rw [List.take_of_length_le (by rw [hus];exact Nat.le_refl _)]
      ·have h5:=h2.2.1 _ _ hx
       have hlt:=(List.getElem?_eq_some_iff.1 hx).1
       rw [← h2.1] at hlt
       rw [Array.getD_eq_getD_getElem?,Array.getElem?_eq_getElem hlt] at h5
       refine ⟨us'[j],by rw [Array.getElem?_toList,Array.getElem?_eq_getElem hlt],?_⟩
       exact h5.mono (Nat.le_succ _) (.of_below hbl) (fun k hk hd=>(z19 hd).resolve_left fun e=>by have:=hub k e;omega) (fun k v hk hv=>by rwa [zM _ _ (by omega)] at hv)
      ·obtain ⟨j,hj,rfl⟩:=List.mem_iff_getElem.1 hv
       simp only [Array.length_toList] at hj
       have:=h2.2.2 j hj
       rw [Array.getD_eq_getD_getElem?,Array.getElem?_eq_getElem hj] at this
       simpa using this
     unfold Oper.wp
     have he:(execOp a.eval o).run P w = .ok (.value (.slice (some ⟨w.heap.size,0,none⟩) len len)) (w.alloc (.cells us' e0)):=by
      simp only [execOp,h,Sem.run_bind,hrun,Result.andThen_ok,Sem.run_pure]
     rw [he]
     refine ⟨qj loc s.N (.slice (some ⟨w.heap.size,0,none⟩) len len),?_,.add hbl _ _ hub⟩
     refine (hr.add hbl _ (.afix e0 n0 len cs0) hub ho).put' hd (.own s.N _ (Nat.lt_succ_self _) rfl fun z hz=>?_)
     rw [zQ] at hz;cases hz;rfl
    ·cases hl
   ·cases hl
  ·cases hl
 ·cases hl
end
open Classical in
noncomputable def aop (P:Program) (s:ASt):Op→Option AV
 | .move x=>some (s.ev x)
 | .assign x=>some (s.ev x)
 | .pick c x y=>match s.ev c with
  | .p (.val (.bool b))=>some (if b=true then s.ev x else s.ev y)
  | _=>none
 | .load t x=>z4n P s t (s.ev x)
 | .fieldAddr t x f=>z3F P s t f (s.ev x)
 | .indexAddr t x i=>match s.ev i with
  | .p (.val (.int _ n))=>z0K P s t n (s.ev x)
  | _=>none
 | .binOp op t x y _=>match s.ev x,s.ev y with
  | .ptr tag _,.p (.val (.pointer none))=>match op,s.hp.lookup tag,ptTy P t with
   | .eql,some (.boxP _ _ _),some true=>some (.bool false)
   | .neq,some (.boxP _ _ _),some true=>some (.bool true)
   | _,_,_=>none
  | .own tag,.p (.val (.map none))=>match op,s.hp.lookup tag,(z0G P t).isSome with
   | .eql,some (.map _ _ _ _ _),true=>some (.bool false)
   | .neq,some (.map _ _ _ _ _),true=>some (.bool true)
   | _,_,_=>none
  | u,v=>zf P op t u v
 | .unOp op _ x=>aun op (s.ev x)
 | .extract x i=>match s.ev x with
  | .tup cs=>cs[i]?
  | _=>none
 | .convert src dst x=>match s.ev x,P.underlying dst with
  | .p (.val (.int _ n)),some (.int k)=>if (P.underlying src).isSome=true then some (.p (.val (.int k (k.wrap n)))) else none
  | .p (.seq _ [[.val (.int .u8 c)]]),some .string=>if z5r P src=true then some (.p (.val (.string (chrB c)))) else none
  | _,_=>none
 | .build t parts=>z7A P s t parts.toList
 | .buildSlice t len parts=>z1y P s t len parts.toList
 | .slice t x lo hi none=>match evI s lo,evI s hi with
  | some li,some ui=>z3H P s t li ui (s.ev x)
  | _,_=>none
 | .field t x f=>z7D P s t f x
 | .index t x i=>z7E P s t x i
 | .makeFunc fn ⟨[]⟩ caps=>some (.fn fn (caps.toList.map s.ev))
 | .call { callee := .builtin .len,args:=⟨[x]⟩,argTypes:=⟨[t]⟩ }=>if isSl P t=true then (alen s (s.ev x)).map fun n => .int n else match P.underlying t,s.ev x with
  | some .string,.p (.val (.string b))=>some (.int b.size)
  | _,_=>none
 | .call { callee := .builtin .max,args:=⟨[x,y]⟩,.. }=>match s.ev x,s.ev y with
  | .p (.val (.int .i64 a)),.p (.val (.int .i64 b))=>some (.int (if a<b then b else a))
  | _,_=>none
 | .nilCheck x=>match s.ev x with
  | .elt r k=>some (.elt r k)
  | .fn (.func f) c=>some (.fn (.func f) c)
  | .ptr t k=>match s.hp.lookup t with
   | some (.boxP _ _ _)=>some (.ptr t k)
   | _=>none
  | _=>none
 | .lookup t x i ok=>match s.ev x with
  | .own tag=>match s.hp.lookup tag,z0G P t,aval (s.ev i) with
   | some (.map _ P' k' _ f),some (k,_,z),some key=>match keyOf P k key with
    | some kl=>if P' = P∧k' = k∧Go.Maps.Keyed P k then some (if ok=true then .tup [cv ((f kl).getD z),.p (.val (.bool (f kl).isSome))] else cv ((f kl).getD z)) else none
    | none=>none
   | _,_,_=>none
  | _=>none
 | _=>none
theorem z3b {P:Program} {ops:Array Oper} {o:Oper} {s:ASt} {av:AV} (h:aop P s o.op=some av):qB P ops o s av:=by
 obtain ⟨dst,op,ty,pos,aft,gd⟩:=o
 simp only at h
 unfold aop at h
 split at h
 ·cases h;exact op_move _ (.inl rfl)
 ·cases h;exact op_move _ (.inr rfl)
 ·split at h
  ·rename_i b hb;cases h;exact op_pick _ _ _ b rfl hb
  ·cases h
 ·exact op_load _ _ _ rfl h
 ·exact op_field _ _ _ _ rfl h
 ·split at h
  ·rename_i k n hi;exact op_index _ _ _ k n _ rfl hi h
  ·cases h
 ·split at h
  ·rename_i tag off hx hy
   split at h
   ·rename_i pin ty cs hlk ht;cases h;exact z6C true _ _ _ _ tag off pin ty cs rfl hx hy hlk ht
   ·rename_i pin ty cs hlk ht;cases h;exact z6C false _ _ _ _ tag off pin ty cs rfl hx hy hlk ht
   ·cases h
  ·rename_i tag hx hy
   split at h
   ·rename_i pin Q k n f hlk ht;cases h;exact z6A true _ _ _ _ tag n pin Q k f rfl hx hy hlk ht
   ·rename_i pin Q k n f hlk ht;cases h;exact z6A false _ _ _ _ tag n pin Q k f rfl hx hy hlk ht
   ·cases h
  ·exact op_bin _ _ _ _ _ _ rfl h
 ·exact op_un _ _ _ _ rfl h
 ·split at h
  ·rename_i cs hx;exact z8S _ _ _ _ rfl hx h
  ·cases h
 ·split at h
  ·rename_i k' n k hx hd
   split at h
   ·rename_i hs;cases h;exact z8R _ _ _ k k' n rfl hs hd hx
   ·cases h
  ·rename_i m c hx hd
   split at h
   ·rename_i hs;cases h;exact op_convS _ _ _ m c rfl hs hd hx
   ·cases h
  ·cases h
 ·exact op_build _ _ _ rfl h
 ·exact op_buildS _ _ _ _ rfl h
 ·split at h
  ·rename_i li ui h1 h2;exact op_slice _ _ _ _ li ui _ rfl h1 h2 h
  ·cases h
 ·exact op_fieldV _ _ _ _ rfl h
 ·exact op_indexV _ _ _ _ rfl h
 ·cases h;exact z7m _ _ rfl
 ·split at h
  ·rename_i ht
   obtain ⟨n,hn,rfl⟩:=Option.map_eq_some_iff.1 h
   exact op_len _ _ n rfl ht hn
  ·split at h
   ·rename_i b ht hx;cases h;exact op_lenStr _ _ b rfl ht hx
   ·cases h
 ·split at h
  ·rename_i a b hx hy;cases h;exact op_max _ _ _ a b rfl hx hy
  ·cases h
 ·rename_i x
  split at h
  ·rename_i r k hx;cases h;rw [← hx];exact z2N x rfl (.inl ⟨r,k,hx⟩)
  ·rename_i f c hx;cases h;rw [← hx];exact z2N x rfl (.inr (.inl ⟨f,c,hx⟩))
  ·rename_i t k hx
   split at h
   ·rename_i pin ty cs hlk;cases h;rw [← hx];exact z2N x rfl (.inr (.inr ⟨t,k,pin,ty,cs,hx,hlk⟩))
   ·cases h
  ·cases h
 ·split at h
  ·rename_i tag hx
   split at h
   ·rename_i pin P' k' n f k e z key hlk ht hi
    split at h
    ·rename_i kl hk
     split at h
     ·rename_i hc
      obtain ⟨rfl,rfl,hK⟩:=hc
      cases h
      exact z6z _ _ _ _ tag n pin k' e z key kl f rfl ht hx hlk hK hi hk
     ·cases h
    ·cases h
   ·cases h
  ·cases h
 ·cases h
def zC (o:Oper) (s:ASt):Prop:=match o.dst with
 | some d=>d<s.n
 | none=>True
theorem zC.h {o:Oper} {s:ASt} (h:zC o s) : ∀ t,o.dst=some t→t<s.n:=fun t e=>by unfold zC at h;rw [e] at h;exact h
inductive CallV (P:Program) (s:ASt) (f:FuncId) (xs:List AV) (r:AV):Prop where
 | plain (he:Ent P f) (h:zt P f xs r) (hok:(xs.all (·.okB 0))=true)
 | view (he:Ent P f) (h:zt P f (xs.map (AV.view s)) r) (hok:((xs.map (AV.view s)).all (·.okB 0))=true) (hs:r.scal=true)
 | read (n:Nat) (hp:Hp) (v:Value) (e:r = .p (.val v)) (he:Ent P f) (h:z4k P f n hp xs v) (hps:z8u s n hp) (hok:(xs.all (·.okB 0))=true) (hv:v.oneCell' = true)
 | viewF (x:PV) (e:r = .p x) (he:Ent P f) (h:z6R P f (xs.map (AV.view s)) x) (hok:((xs.map (AV.view s)).all (·.okB 0))=true)
theorem CallV.val {P:Program} {s:ASt} {ops:Array Oper} {o:Oper} {f:FuncId} {args:Array Operand} {tys:Array TypeId} {r:AV} (ho:o.op = .call { callee := .value (.func f),args:=args,argTypes:=tys }) (h:CallV P s f (args.toList.map s.ev) r):qB P ops o s r:=by
 cases h with
 | plain he h hok=>exact op_call f args tys r ho he h hok
 | view he h hok hs =>
  rw [List.map_map] at h hok
  exact op_callV f args tys r ho he h hok hs
 | read n hp v e he h hps hok hv=>rw [e];exact op_callR f args tys n hp v ho he h hps hok hv
 | viewF x e he h hok =>
  rw [List.map_map] at h hok
  rw [e]
  exact op_callVF f args tys x ho he h hok
inductive CallR (P:Program) (s:ASt) (f:FuncId) (caps xs:List AV) (r:AV):Prop where
 | plain (he:Ent P f) (h:zt P f (xs++caps) r) (hok:((xs++caps).all (·.okB 0))=true)
 | read (n:Nat) (hp:Hp) (v:Value) (e:r = .p (.val v)) (e' : caps = []) (he:Ent P f) (h:z4k P f n hp xs v) (hps:z8u s n hp) (hok:(xs.all (·.okB 0))=true) (hv:v.oneCell' = true)
theorem CallR.val {P:Program} {s:ASt} {ops:Array Oper} {o:Oper} {t:Tmp} {f:FuncId} {caps:List AV} {args:Array Operand} {tys:Array TypeId} {r:AV} (ho:o.op = .call { callee := .value (.tmp t),args:=args,argTypes:=tys }) (hf:s.get t = .fn (.func f) caps) (h:CallR P s f caps (args.toList.map s.ev) r):qB P ops o s r:=by
 cases h with
 | plain he h hok=>exact z8b t f caps args tys r ho hf he h hok
 | read n hp v e e' he h hps hok hv =>
  subst e'
  rw [e]
  exact op_callRF t f args tys n hp v ho hf he h hps hok hv
def WO (P:Program) (o:Oper) (s:ASt) (K:ASt→Prop):Prop:=match o.op with
 | .call { callee := .value (.func f),args:=args,.. }=>(∃ r,CallV P s f (args.toList.map s.ev) r∧K (s.put o.dst r))∨z3S P s f (args.toList.map s.ev) o.dst K
 | .call { callee := .value (.tmp t),args:=args,.. }=>match s.get t with
  | .fn (.func f) caps=>(∃ r,(Ent P f∧zt P f (args.toList.map s.ev++caps) r∧((args.toList.map s.ev++caps).all (·.okB 0))=true)∧K (s.put o.dst r))∨z3S P s f (args.toList.map s.ev++caps) o.dst K
  | _=>False
 | .makeMap t (some x)=>match z0G P t,s.ev x with
  | some (k,_,_),.p (.val (.int _ _))=>K ((s.add (.map none P k 0 fun _=>none)).put o.dst (.own s.N))
  | _,_=>False
 | .makeMap t none=>match z0G P t with
  | some (k,_,_)=>K ((s.add (.map none P k 0 fun _=>none)).put o.dst (.own s.N))
  | none=>False
 | .lookup t x i ok=>match s.ev x with
  | .own tag=>match s.hp.lookup tag,z0G P t,aval (s.ev i) with
   | some (.map _ P' k' _ f),some (k,_,z),some key=>match keyOf P k key with
    | some kl=>(P' = P∧k' = k∧Go.Maps.Keyed P k)∧K (s.put o.dst (if ok=true then .tup [cv ((f kl).getD z),.p (.val (.bool (f kl).isSome))] else cv ((f kl).getD z)))
    | none=>False
   | some (.amap P' k' _ f _),some (k,_,z),some key=>match keyOf P k key with
    | some kl=>(P' = P∧k' = k∧Go.Maps.Keyed P k)∧K (s.put o.dst (if ok=true then .tup [(f kl).getD (cv z),.p (.val (.bool (f kl).isSome))] else (f kl).getD (cv z)))
    | none=>False
   | _,_,_=>False
  | _=>False
 | .mapUpdate t x i y=>match s.ev x with
  | .own tag=>match s.hp.lookup tag,z0G P t,aval (s.ev i),aval (s.ev y) with
   | some (.map pin P' k' n f),some (k,_,_),some key,some val=>match keyOf P k key with
    | some kl=>(P' = P∧k' = k∧Go.Maps.Keyed P k∧n<maxLen∧o.dst=none)∧K { s with hp:=zO s.hp tag (.map pin P k (n+1) (updF f kl (some val))) }
    | none=>False
   | some (.amap P' k' n f _),some (k,_,_),some key,_=>match keyOf P k key with
    | some kl=>(P' = P∧k' = k∧Go.Maps.Keyed P k∧n<maxLen∧o.dst=none)∧K { s with hp:=zO s.hp tag (.amap P k (n+1) (updA f kl (some (s.ev y))) none) }
    | none=>False
   | _,_,_,_=>False
  | _=>False
 | .mapEntry t x i=>match s.ev x with
  | .own tag=>match s.hp.lookup tag,z0G P t,aval (s.ev i) with
   | some (.amap P' k' n f _),some (k,_,z),some key=>match keyOf P k key with
    | some kl=>(P' = P∧k' = k∧Go.Maps.Keyed P k∧n<maxLen) ∧ ∀ st:Nat,K (ASt.put { s with hp:=zO s.hp tag (.amap P k (n+1) (updA f kl (some ((f kl).getD (cv z)))) (some (st,kl))) } o.dst (.tup [(f kl).getD (cv z),.p (.val (.int .i64 (st:Int)))]))
    | none=>False
   | _,_,_=>False
  | _=>False
 | .entryStore t x i y=>match s.ev x with
  | .own tag=>match s.hp.lookup tag,z0G P t with
   | some (.amap P' k' n f (some (st,kl))),some (k,_,_)=>(P' = P∧k' = k∧Go.Maps.Keyed P k∧n<maxLen∧o.dst=none∧s.ev i = .p (.val (.int .i64 (st:Int))))∧K { s with hp:=zO s.hp tag (.amap P k (n+1) (updA f kl (some (s.ev y))) none) }
   | _,_=>False
  | _=>False
 | .call { callee := .builtin .delete,args:=⟨[x,i]⟩,argTypes:=⟨[t,k0]⟩ }=>match s.ev x with
  | .own tag=>match s.hp.lookup tag,z0G P t,aval (s.ev i) with
   | some (.map pin P' k' n f),some (k,_,_),some key=>match keyOf P k key with
    | some kl=>(P' = P∧k' = k∧k0=k∧Go.Maps.Keyed P k)∧K (ASt.put { s with hp:=zO s.hp tag (.map pin P k n (updF f kl none)) } o.dst (.tup []))
    | none=>False
   | _,_,_=>False
  | _=>False
 | .range t x=>match s.ev x with
  | .own tag=>match s.hp.lookup tag,z0G P t with
   | some (.map pin P' k' n f),some (k,_,_)=>(P' = P∧k' = k) ∧ ∀ b r es ck,z1m P k n f es ck→(∀ q,pin=some q→q=b)→K (ASt.put { s with hp:=(s.N,.raw (.pointer (some ⟨r,0,none⟩)) (.mapIter (some b) ck #[] ck)) :: zO s.hp tag (.raw (.map (some b)) (.map es ck)),N:=s.N+1 } o.dst (.own s.N))
   | _,_=>False
  | _=>False
 | .next x false=>match s.ev x with
  | .own ti => ∃ (tm r b since c0:Nat) (seen:Array Nat) (es:Array MapEntry) (ck:Nat),(s.hp.lookup ti=some (.raw (.pointer (some ⟨r,0,none⟩)) (.mapIter (some b) since seen c0))∧s.hp.lookup tm=some (.raw (.map (some b)) (.map es ck))∧(∀ x ∈ es.toList,x.born<since)∧since≤c0)∧((lefts es seen).size=0→K (s.put o.dst (.tup [.p (.val (.bool false))]))) ∧ ∀ e ∈ (lefts es seen).toList,K (ASt.put { s with hp:=zO s.hp ti (.raw (.pointer (some ⟨r,0,none⟩)) (.mapIter (some b) since (seen.push e.born) ck)) } o.dst (.tup [.p (.val (.bool true)),cv e.key,cv e.val]))
  | _=>False
 | .entry x=>match s.ev x with
  | .own ti => ∃ (tm r b since:Nat) (seen:Array Nat) (es:Array MapEntry) (ck:Nat) (e:MapEntry),(s.hp.lookup ti=some (.raw (.pointer (some ⟨r,0,none⟩)) (.mapIter (some b) since (seen.push e.born) ck))∧s.hp.lookup tm=some (.raw (.map (some b)) (.map es ck))∧e ∈ es.toList∧(es.toList.map (·.born)).Nodup)∧K (s.put o.dst (.tup [cv e.key,cv e.val]))
  | _=>False
 | .call { callee := .builtin .clear,args:=⟨[x]⟩,argTypes:=⟨[t]⟩ }=>match s.ev x with
  | .suf tag n m=>match s.hp.lookup tag,zY P t with
   | some (.row e n' rows),some (e',m',_)=>match zN P e with
    | some zs=>(n' = n∧e' = e∧m' = n∧m<rows.length)∧K (ASt.put { s with hp:=zO s.hp tag (.row e n (rows.take m++List.replicate (rows.length-m) (zs.map .val))) } o.dst (.tup []))
    | none=>False
   | _,_=>False
  | _=>False
 | .box ty x=>match z0e (s.ev x) with
  | some cs=>K ((s.add (.boxP none ty cs)).put o.dst (.ptr s.N 0))
  | none=>False
 | .alloc ty=>match zN P ty with
  | some zs=>K ((s.add (.boxP none ty (zs.map fun v => .p (.val v)))).put o.dst (.ptr s.N 0))
  | none=>False
 | .store t x y=>match s.ev x with
  | .ptr tag off=>match s.hp.lookup tag with
   | some (.boxP pin ty cs)=>match z0e (s.ev y) with
    | some ys=>(qy P t=some ys.length∧off+ys.length≤cs.length∧o.dst=none)∧K { s with hp:=zO s.hp tag (.boxP pin ty (qM cs off ys)) }
    | none=>False
   | _=>False
  | .rptr tag n k off=>match s.hp.lookup tag,z0e (s.ev y) with
   | some (.row e n' rows),some ys=>match rows[k]?,z6F ys with
    | some r,some ps=>(n' = n∧qy P t=some ys.length∧off+ys.length≤n∧o.dst=none)∧K { s with hp:=zO s.hp tag (.row e n (rows.set k (qM r off ps))) }
    | _,_=>False
   | some (.arow e cs),some ys=>match ys with
    | [y1]=>(n=1∧off=0∧k<cs.length∧qy P t=some 1∧o.dst=none)∧K { s with hp:=zO s.hp tag (.arow e (cs.set k y1)) }
    | _=>False
   | _,_=>False
  | _=>False
 | .makeSlice t x y=>match s.ev x,s.ev y with
  | .p (.val (.int _ l)),.p (.val (.int _ l'))=>match zY P t with
   | some (e,n,bytes)=>match zN P e with
    | some zs=>(l=l' ∧ 0≤l∧l.toNat≤maxLen∧bytes*l.toNat≤140737488355328)∧K ((s.add (.row e n (List.replicate l.toNat (zs.map .val)))).put o.dst (.own s.N))
    | none=>False
   | none=>False
  | _,_=>False
 | .buildSlice t 0 ⟨[]⟩=>match zY P t with
  | some (e,n,_)=>K ((s.add (.row e n [])).put o.dst (.own s.N))
  | none=>False
 | .call { callee := .builtin .append,args:=⟨[x,y]⟩,argTypes:=⟨[ty,ty']⟩ }=>match s.ev x,s.ev y with
  | .own tag,.p (.seq n ys)=>match s.hp.lookup tag,zY P ty with
   | some (.row e m rows),some (e',m',bytes)=>(ty=ty' ∧ e=e' ∧ n=m∧m=m' ∧ rows.length+ys.length≤maxLen∧(rows.length+ys.length)*bytes≤140737488355328)∧K (ASt.put { s.subst tag .zy with hp:=zO (s.subst tag .zy).hp tag (.row e m (rows++ys)) } o.dst (.own tag))
   | _,_=>False
  | .own tag,.p (.val (.string b))=>match s.hp.lookup tag,appS P ty ty' with
   | some (.row e 1 rows),some e'=>(e=e' ∧ rows.length+b.size≤140737488355328)∧K (ASt.put { s.subst tag .zy with hp:=zO (s.subst tag .zy).hp tag (.row e 1 (rows++z0t b.data.toList)) } o.dst (.own tag))
   | _,_=>False
  | .p (.val (.slice none 0 0)),.p (.seq n ys)=>match zY P ty with
   | some (e',m',bytes)=>(ty=ty' ∧ n=m' ∧ ys.length≤maxLen∧ys.length*bytes≤140737488355328)∧K ((s.add (.row e' n ys)).put o.dst (.own s.N))
   | none=>False
  | .suf tag n0 m0,.p (.seq n ys)=>match s.hp.lookup tag,zY P ty with
   | some (.row e m rows),some (e',m',bytes)=>(ty=ty' ∧ e=e' ∧ n0=n∧n=m∧m=m' ∧ 0<ys.length∧m0≤rows.length ∧ 0<rows.length∧rows.length+ys.length≤maxLen∧(rows.length+ys.length)*bytes≤140737488355328)∧K (ASt.put { s.subst tag .zy with hp:=zO (s.subst tag .zy).hp tag (.row e m (rows++ys)) } o.dst (.suf tag n0 m0))∧K ((s.add (.row e m (rows.drop m0++ys))).put o.dst (.own s.N))
   | _,_=>False
  | _,_=>False
 | .buildSlice t len ⟨parts⟩=>match z1y P s t len parts with
  | some av=>K (s.put o.dst av)
  | none=>match z0T P s t len parts with
   | some (e,n,cs)=>K ((s.add (.afix e n len cs)).put o.dst (.own s.N))
   | none=>False
 | op=>match aop P s op with
  | some av=>K (s.put o.dst av)
  | none=>False
theorem WO.sound {P:Program} {ops:Array Oper} {Q:Exit→ASt→Prop} {rest:List Oper} {o:Oper} {s:ASt} (hw:z3a ops o s) (hd:zC o s) (h:WO P o s (TL P ops Q rest)):TL P ops Q (o :: rest) s:=by
 obtain ⟨dst,op,ty,pos,aft,gd⟩:=o
 unfold WO at h
 simp only at h
 split at h
 ·rcases h with ⟨r,h1,h2⟩|h
  ·exact TL.val hw r (h1.val rfl) hd.h h2
  ·exact TL.effG hw (op_callM _ _ _ rfl h hd.h)
 ·split at h
  ·rename_i f caps hf
   rcases h with ⟨r,⟨h1,h2,h3⟩,h4⟩|h
   ·exact TL.val hw r (z8b _ f caps _ _ r rfl hf h1 h2 h3) hd.h h4
   ·exact TL.effG hw (op_callMF _ f caps _ _ rfl hf h hd.h)
  ·exact h.elim
 ·split at h
  ·rename_i k e z q n ht hx;exact TL.eff hw (z7n _ k e z _ q n rfl hx ht hd.h) h
  ·exact h.elim
 ·split at h
  ·rename_i k e z ht;exact TL.eff hw (z8U _ k e z rfl ht hd.h) h
  ·exact h.elim
 ·split at h
  ·rename_i tag hx
   split at h
   ·rename_i pin P' k' n f k e z key hlk ht hi
    split at h
    ·rename_i kl hk
     obtain ⟨⟨rfl,rfl,hK⟩,h⟩:=h
     refine TL.val hw _ (z6z _ _ _ _ tag n pin k' e z key kl f rfl ht hx hlk hK hi hk) hd.h h
    ·exact h.elim
   ·rename_i P' k' n f q k e z key hlk ht hi
    split at h
    ·rename_i kl hk
     obtain ⟨⟨rfl,rfl,hK⟩,h⟩:=h
     refine TL.val hw _ (z8T _ _ _ _ tag n k' e z key kl f q rfl ht hx hlk hK hi hk) hd.h h
    ·exact h.elim
   ·exact h.elim
  ·exact h.elim
 ·split at h
  ·rename_i tag hx
   split at h
   ·rename_i pin P' k' n f k e z key val hlk ht hi hy
    split at h
    ·rename_i kl hk
     obtain ⟨⟨rfl,rfl,hK,hn,hd0⟩,h⟩:=h
     exact TL.eff hw (z6B _ _ _ _ tag n pin k' e z key val kl f rfl ht hx hlk hK hi hk hy hn hd0) h
    ·exact h.elim
   ·rename_i P' k' n f q k e z key hlk ht hi
    split at h
    ·rename_i kl hk
     obtain ⟨⟨rfl,rfl,hK,hn,hd0⟩,h⟩:=h
     exact TL.eff hw (z5L _ _ _ _ tag n k' e z key kl f q rfl ht hx hlk hK hi hk hn hd0) h
    ·exact h.elim
   ·exact h.elim
  ·exact h.elim
 ·split at h
  ·rename_i tag hx
   split at h
   ·rename_i P' k' n f q k e z key hlk ht hi
    split at h
    ·rename_i kl hk
     obtain ⟨⟨rfl,rfl,hK,hn⟩,h⟩:=h
     exact TL.effG hw (z7o _ _ _ tag n k' e z key kl f q rfl ht hx hlk hK hi hk hn hd.h h)
    ·exact h.elim
   ·exact h.elim
  ·exact h.elim
 ·split at h
  ·rename_i tag hx
   split at h
   ·rename_i P' k' n f st kl k e z hlk ht
    obtain ⟨⟨rfl,rfl,hK,hn,hd0,hi⟩,h⟩:=h
    exact TL.eff hw (z5K _ _ _ _ tag n st k' e z kl f rfl ht hx hlk hK hi hn hd0) h
   ·exact h.elim
  ·exact h.elim
 ·split at h
  ·rename_i tag hx
   split at h
   ·rename_i pin P' k' n f k e z key hlk ht hi
    split at h
    ·rename_i kl hk
     obtain ⟨⟨rfl,rfl,rfl,hK⟩,h⟩:=h
     exact TL.eff hw (op_delete _ _ _ _ tag n pin _ e z key kl f rfl rfl ht hx hlk hK hi hk hd.h) h
    ·exact h.elim
   ·exact h.elim
  ·exact h.elim
 ·split at h
  ·rename_i tag hx
   split at h
   ·rename_i pin P' k' n f k e z hlk ht
    obtain ⟨⟨rfl,rfl⟩,h⟩:=h
    exact TL.effG hw (op_range _ _ tag n pin k' e z f rfl ht hx hlk hd.h h)
   ·exact h.elim
  ·exact h.elim
 ·split at h
  ·rename_i ti hx
   obtain ⟨tm,r,b,since,c0,seen,es,ck,⟨h1,h2,h3,h4⟩,h5,h6⟩:=h
   exact TL.effG hw (op_next _ ti tm r b since c0 seen es ck rfl hx h1 h2 h3 h4 hd.h h5 h6)
  ·exact h.elim
 ·split at h
  ·rename_i ti hx
   obtain ⟨tm,r,b,since,seen,es,ck,e,⟨h1,h2,h3,h4⟩,h⟩:=h
   exact TL.val hw _ (op_entry _ ti tm r b since seen es ck e rfl hx h1 h2 h3 h4) hd.h h
  ·exact h.elim
 ·split at h
  ·rename_i tag n m hx
   split at h
   ·rename_i e n' rows e' m' bytes hlk ht
    split at h
    ·rename_i zs hz
     obtain ⟨⟨rfl,rfl,rfl,hm⟩,h⟩:=h
     exact TL.eff hw (op_clear _ _ tag m _ _ bytes zs rows rfl hx hlk ht hz hm hd.h) h
    ·exact h.elim
   ·exact h.elim
  ·exact h.elim
 ·split at h
  ·rename_i cs hc;exact TL.eff hw (op_box _ _ cs rfl hc hd.h) h
  ·exact h.elim
 ·split at h
  ·rename_i zs hz;exact TL.eff hw (z8a _ zs rfl hz hd.h) h
  ·exact h.elim
 ·split at h
  ·rename_i tag off hx
   split at h
   ·rename_i pin ty' cs hlk
    split at h
    ·rename_i ys hy
     obtain ⟨⟨h1,h2,h3⟩,h4⟩:=h
     exact TL.eff hw (z8d _ _ _ tag off pin ty' cs ys rfl hx hlk hy h1 h2 h3) h4
    ·exact h.elim
   ·exact h.elim
  ·rename_i tag n k off hx
   split at h
   ·rename_i e n' rows ys hlk hy
    split at h
    ·rename_i r ps hr hp
     obtain ⟨⟨rfl,h1,h2,h3⟩,h4⟩:=h
     exact TL.eff hw (op_storeR _ _ _ tag n' k off e rows r ys ps rfl hx hlk hr hy hp h1 h2 h3) h4
    ·exact h.elim
   ·rename_i e cs ys hlk hy
    split at h
    ·rename_i y1
     obtain ⟨⟨rfl,rfl,hk,h1,h3⟩,h4⟩:=h
     exact TL.eff hw (op_storeA _ _ _ tag k e cs y1 rfl hx hlk hk hy h1 h3) h4
    ·exact h.elim
   ·exact h.elim
  ·exact h.elim
 ·split at h
  ·rename_i k l k' l' hx hy
   split at h
   ·rename_i e n bytes ht
    split at h
    ·rename_i zs hz
     obtain ⟨⟨rfl,h1,h2,h3⟩,h4⟩:=h
     obtain ⟨m,rfl⟩ : ∃ m:Nat,l=m:=⟨l.toNat,by omega⟩
     simp only [Int.toNat_natCast] at h2 h3 h4
     exact TL.eff hw (z8c _ _ _ k k' e n bytes m zs rfl hx hy ht hz h2 h3 hd.h) h4
    ·exact h.elim
   ·exact h.elim
  ·exact h.elim
 ·split at h
  ·rename_i e n bytes ht
   exact TL.eff hw (z5g _ e n bytes rfl ht hd.h) h
  ·exact h.elim
 ·split at h
  ·rename_i tag n ys hx hy
   split at h
   ·rename_i e m rows e' m' bytes hlk ht
    obtain ⟨⟨rfl,rfl,rfl,rfl,h1,h2⟩,h3⟩:=h
    exact TL.eff hw (op_append _ _ _ tag e n bytes rows ys rfl hx hlk ht hy h1 h2 hd.h) h3
   ·exact h.elim
  ·rename_i tag b hx hy
   split at h
   ·rename_i e rows e' hlk ht
    obtain ⟨⟨rfl,h1⟩,h3⟩:=h
    exact TL.eff hw (z6y _ _ _ _ tag e rows b rfl hx hlk ht hy h1 hd.h) h3
   ·exact h.elim
  ·rename_i n ys hx hy
   split at h
   ·rename_i e' m' bytes ht
    obtain ⟨⟨rfl,rfl,h1,h2⟩,h3⟩:=h
    exact TL.eff hw (z8M _ _ _ e' n bytes ys rfl hx ht hy h1 h2 hd.h) h3
   ·exact h.elim
  ·rename_i tag n0 m0 n ys hx hy
   split at h
   ·rename_i e m rows e' m' bytes hlk ht
    obtain ⟨⟨rfl,rfl,rfl,rfl,rfl,h1,h2,h3,h4,h5⟩,h6,h7⟩:=h
    exact TL.effG hw (z8N _ _ _ tag m0 e _ bytes rows ys rfl hx hlk ht hy h1 h2 h3 h4 h5 hd.h h6 h7)
   ·exact h.elim
  ·exact h.elim
 ·split at h
  ·rename_i av hav;exact TL.val hw av (z3b (by simpa [aop] using hav)) hd.h h
  ·split at h
   ·rename_i e n cs hF;exact TL.eff hw (z8P _ _ _ e n cs rfl hF hd.h) h
   ·exact h.elim
 ·split at h
  ·rename_i av hav;exact TL.val hw av (z3b hav) hd.h h
  ·exact h.elim
def WG (b want:Bool) (yes no:Prop):Prop:=(b=want→yes)∧(b=(!want)→no)
def WS (P:Program) (ds:List (Option Nat)) (o:Oper) (s:ASt) (K:ASt→Prop):Prop:=zC o s∧match o.guard with
 | none=>WO P o s K
 | some (g,want)=>match ds[g]? with
  | some (some t)=>match s.get t with
   | .p (.val (.bool b))=>WG b want (WO P o (s.put (some t) (.bool want)) K) (K ((s.put (some t) (.bool (!want))).put o.dst (.tup [])))
   | .tup []=>K (s.put o.dst (.tup []))
   | _=>False
  | _=>False
def WL (P:Program) (ds:List (Option Nat)) (Q:ASt→Prop):List Oper→ASt→Prop
 | [],s=>Q s
 | o :: rest,s=>WS P ds o s (WL P ds Q rest)
theorem WO.mono {P:Program} {o:Oper} {s:ASt} {K K' : ASt→Prop} (h : ∀ s,K s→K' s) (k:WO P o s K):WO P o s K':=by
 unfold WO at *
 repeat' (first
  | exact k.elim
  | exact h _ k
  | exact ⟨k.1,h _ k.2⟩
  | exact ⟨k.1,h _ k.2.1,h _ k.2.2⟩
  | exact ⟨k.1,fun st=>h _ (k.2 st)⟩
  | exact let ⟨r,h1,h2⟩:=k;⟨r,h1,h _ h2⟩
  | exact k.imp (fun ⟨r,h1,h2⟩=>⟨r,h1,h _ h2⟩) (z3S.mono h)
  | exact ⟨k.1,fun b r es ck hm hq=>h _ (k.2 b r es ck hm hq)⟩
  | exact let ⟨a1,a2,a3,a4,a5,a6,a7,a8,h1,h2,h3⟩:=k;⟨a1,a2,a3,a4,a5,a6,a7,a8,h1,fun e=>h _ (h2 e),fun e he=>h _ (h3 e he)⟩
  | exact let ⟨a1,a2,a3,a4,a5,a6,a7,a8,h1,h2⟩:=k;⟨a1,a2,a3,a4,a5,a6,a7,a8,h1,h _ h2⟩
  | split at k)
theorem WS.mono {P:Program} {ds:List (Option Nat)} {o:Oper} {s:ASt} {K K' : ASt→Prop} (h : ∀ s,K s→K' s) (k:WS P ds o s K):WS P ds o s K':=by
 unfold WS at *
 refine ⟨k.1,?_⟩
 have k2:=k.2
 split at k2
 ·exact WO.mono h k2
 ·split at k2
  ·split at k2
   ·exact ⟨fun e=>WO.mono h (k2.1 e),fun e=>h _ (k2.2 e)⟩
   ·exact h _ k2
   ·exact k2.elim
  ·exact k2.elim
structure Sq (s s' : ASt):Prop where
 hp:s'.hp=s.hp
 n:s'.n=s.n
 N:s'.N=s.N
 get : ∀ t,s'.get t=s.get t
theorem Sq.refl (s:ASt):Sq s s:=⟨rfl,rfl,rfl,fun _=>rfl⟩
theorem Sq.symm {s s' : ASt} (h:Sq s s'):Sq s' s:=⟨h.hp.symm,h.n.symm,h.N.symm,fun t=>(h.get t).symm⟩
theorem Sq.trans {s s' s'' : ASt} (h:Sq s s') (k:Sq s' s''):Sq s s'':=⟨k.hp.trans h.hp,k.n.trans h.n,k.N.trans h.N,fun t=>(k.get t).trans (h.get t)⟩
theorem Sq.put {s s' : ASt} (h:Sq s s') (d:Option Nat) (x:AV):Sq (s.put d x) (s'.put d x):=by
 cases d with
 | none=>exact h
 | some d=>exact ⟨h.hp,h.n,h.N,fun t=>by rw [ASt.get_put,ASt.get_put,h.get]⟩
theorem Sq.same {s:ASt} {t:Nat} {x:AV} (h:s.get t=x):Sq s (s.put (some t) x):=⟨rfl,rfl,rfl,fun k=>by
 rw [ASt.get_put]
 split
 ·rename_i e;rw [e,h]
 ·rfl⟩
theorem Sq.rel {X:Nat→Prop} {L:Lim} {s s' : ASt} {loc:Nat→Option Value} {a:Act} {w:World} (h:Sq s s') (r:Rel X L s loc a w):Rel X L s' loc a w :=
 ⟨r.defers,r.size.trans h.n.symm,fun t ht=>by rw [h.N,h.get];exact r.fr t ht,by rw [h.N,h.hp];exact r.hp⟩
theorem Sq.weak {s s' : ASt} (h:Sq s s'):zi s s':=fun _ loc _ _ r=>⟨loc,h.rel r,Ext.refl _ _⟩
theorem Sq.val {P:Program} {ops:Array Oper} {o:Oper} {s s' : ASt} {av:AV} (h:Sq s s') (k:qB P ops o s av):qB P ops o s' av:=fun L loc a w r=>by
 have:=k L loc a w (h.symm.rel r)
 rw [h.N];exact this
theorem WL.sound {P:Program} {ops:Array Oper} {Q:Exit→ASt→Prop} : ∀ {l:List Oper} {s:ASt},WL P (ops.toList.map (·.dst)) (Q .normal) l s→TL P ops Q l s
 | [],_,h=>TL.nil h
 | o :: rest,s,h=>by
  obtain ⟨hd,h⟩:=h
  split at h
  ·rename_i hg
   exact WO.sound (by simp [z3a,hg]) hd (WO.mono (fun s k=>WL.sound k) h)
  ·rename_i g want hg
   split at h
   ·rename_i t ht
    split at h
    ·rename_i b hb
     have ht' : (ops[g]?).bind (·.dst)=some t:=by
      simp only [List.getElem?_map,Option.map_eq_some_iff,Array.getElem?_toList] at ht
      obtain ⟨o',h1,h2⟩:=ht
      rw [h1];exact h2
     by_cases hbw:b=want
     ·have hw:=(Sq.same (s:=s) (t:=t) (x := .bool want) (by rw [hb,hbw])).weak
      exact TL.weak hw (WO.sound (by simp only [z3a,hg,ht',ASt.get_put,if_true]) (by unfold zC at hd ⊢;exact hd) (WO.mono (fun s k=>WL.sound k) (h.1 hbw)))
     ·have hbn:b=(!want):=by cases b <;> cases want <;> simp_all
      have hw:=(Sq.same (s:=s) (t:=t) (x := .bool (!want)) (by rw [hb,hbn])).weak
      exact TL.weak hw (TL.skip (by simp only [z16,hg,ht',ASt.get_put,if_true];exact .inl trivial) (WL.sound (h.2 hbn)) hd.h)
    ·rename_i hb
     have ht' : (ops[g]?).bind (·.dst)=some t:=by
      simp only [List.getElem?_map,Option.map_eq_some_iff,Array.getElem?_toList] at ht
      obtain ⟨o',h1,h2⟩:=ht
      rw [h1];exact h2
     exact TL.skip (by simp only [z16,hg,ht'];exact .inr hb) (WL.sound h) hd.h
    ·exact h.elim
   ·exact h.elim
theorem WL.step {P:Program} {ds:List (Option Nat)} {Q:ASt→Prop} {o:Oper} {rest:List Oper} {s:ASt} (h : ∀ K:ASt→Prop,(∀ s,WL P ds Q rest s→K s)→WS P ds o s K):WL P ds Q (o :: rest) s:=h _ fun _ h=>h
theorem WL.fin {P:Program} {ds:List (Option Nat)} {Q:ASt→Prop} {s:ASt} (h:Q s):WL P ds Q [] s:=h
theorem T.region' {F:Fence} [FOk F] {P:Program} {Q:Exit→ASt→Prop} {s:ASt} {id:Nat} {l:List Oper} (hd:z1r l=true) (h:WL P (l.map (·.dst)) (Q .normal) l s):T F P (.region id l.toArray false) Q s:=T.region hd (WL.sound (ops:=l.toArray) (by rw [show NQ Q .normal=Q .normal from funext (NQ.normal Q)];simpa using h))
end Go.Proofs.YtbkkginjfnjffaaGreatDoor
namespace Go.Proofs.YtbkkginjfnjffaaGreatDoor.Dn
open Go.RowKit Go.Sort
def z4G (P:Program) (w:World) (F:World→Value→Prop):Result Next→Prop
 | .ok (.value u) w'=>F w' u ∧ ∃ q,w' = gm w q
 | .ok .skip w'=>w' = w∧F w undef
 | .ok (.enter f args) w'=>w' = w∧Calls P f args w fun e w'' => ∃ u,e = .returned u∧F w'' u ∧ ∃ q,w'' = gm w q
 | _=>False
def z6I (P:Program) (ops:Array Oper) (W:World) (size:Nat) (F:Tmp→World→Value→Prop) (o:Oper):Prop :=
 ∀ d,o.dst=some d → ∀ (b:Act) (p:Regrown),b.tmps.size=size→(∀ x ∈ o.looksAt ops,F x (gm W p) (slot b x)) →
  if Region.wanted o (yielded ops b.tmps)=true then z4G P (gm W p) (F d) ((execOp b.eval o).run P (gm W p)) else F d (gm W p) undef
def relB (ops:Array Oper) (n:Nat) (size:Nat):Bool :=
 (List.range n).all (fun i=>match ops[i]? with
  | none=>false
  | some o=>(match o.dst with|none=>false|some d=>decide (d<size))&&(o.looksAt ops).all (fun x => !(List.range n).any (fun j=>((ops[j]?).bind (·.dst))==some x)||o.after.any (fun e=>Region.binds .any e&&((ops[e.on]?).bind (·.dst))==some x&&decide (e.on<n)))) &&
 Region.noSelect ops&&z4o ops n&&decide (n≤ops.size) &&
 (List.range n).all (fun i=>match ops[i]? with|none=>false|some o=>o.after.all (fun e => !Region.binds .any e||decide (e.on<i))) &&
 (decide (n=ops.size)||(Region.sinkB .any ops n&&Region.chainB .any ops n))&&Region.seqB .any ops (ops.size-n) n (qV ops.size n)
theorem z6S {P:Program} {Q:Exit→Act→World→Prop} {a:Act} {w:World} {l lt:List Oper} (n:Nat) (F:Tmp→World→Value→Prop) (hB:relB l.toArray n a.tmps.size=true) (ht:l.drop n=lt)
  (mono : ∀ t v w q,F t w v→F t (gm w q) v)
  (start : ∀ t,(∀ i,i<n→((l[i]?).bind (·.dst)) ≠ some t) → ∀ p,F t (gm w.drew p) (slot a t))
  (each : ∀ o ∈ l.take n,z6I P l.toArray w.drew a.tmps.size F o)
  (tail : ∀ (b:Act) (p:Regrown),b.defers=a.defers→b.tmps.size=a.tmps.size→(∀ t,(∀ i,i<n→((l[i]?).bind (·.dst)) ≠ some t)→slot b t=slot a t)→(∀ t,F t (gm w.drew p) (slot b t))→wpList P l.toArray Q lt b (gm w.drew p)) :
  wpAny P .any l.toArray Q l.toArray.size (Array.replicate l.toArray.size false) a w.drew:=by
 subst ht
 simp only [relB,Bool.and_eq_true,decide_eq_true_eq,Bool.or_eq_true] at hB
 obtain ⟨⟨⟨⟨⟨⟨hlook,hsel⟩,hap⟩,hn⟩,hdep⟩,htail⟩,hseq⟩:=hB
 have hsel':=Region.noSelect_spec hsel
 have hdst : ∀ i o,i<n→l.toArray[i]? = some o → ∃ d,o.dst=some d∧d<a.tmps.size:=fun i o hi ho=>by
  have:=List.all_eq_true.1 hlook i (List.mem_range.2 hi)
  rw [ho] at this
  simp only [Bool.and_eq_true] at this
  cases hd:o.dst with
  | none=>simp [hd] at this
  | some d=>simp [hd] at this;exact ⟨d,rfl,this.1⟩
 let I:Array Bool→Act→World→Prop:=fun listed a' w' => ∃ q:Regrown,w' = gm w.drew q∧a'.defers=a.defers∧a'.tmps.size=a.tmps.size∧HeadInv .any l.toArray n listed ∧
  (∀ t,(∀ i,i<n→((l[i]?).bind (·.dst)) ≠ some t)→slot a' t=slot a t) ∧
  (∀ i o d,i<n→l.toArray[i]? = some o→o.dst=some d→listed.getD i false=true→F d w' (slot a' d))
 have sees : ∀ {listed:Array Bool} {a' : Act} {w' : World} {i:Nat} {o:Oper},I listed a' w' → i<n→i ∈ Region.ready .any l.toArray listed→l.toArray[i]? = some o → ∀ x ∈ o.looksAt l.toArray,F x w' (slot a' x):=by
  intro listed a' w' i o ⟨q,hw,_,_,hinv,s1,s2⟩ hi hr ho x hx
  have hl:=List.all_eq_true.1 hlook i (List.mem_range.2 hi)
  rw [ho] at hl
  simp only [Bool.and_eq_true] at hl
  have hl':=List.all_eq_true.1 hl.2 x hx
  simp only [Bool.or_eq_true,Bool.not_eq_true'] at hl'
  rcases hl' with hno|hxq
  ·have hno' : ∀ i,i<n→((l[i]?).bind (·.dst)) ≠ some x:=fun j hj e=>by
    have:=List.any_eq_false.1 hno j (List.mem_range.2 hj)
    simp [e] at this
   rw [s1 x hno',hw]
   exact start x hno' q
  ·obtain ⟨k,hk,he2⟩:=Array.any_eq_true.1 hxq
   simp only [Bool.and_eq_true,beq_iff_eq,decide_eq_true_eq] at he2
   obtain ⟨⟨hb,hdx⟩,hen⟩:=he2
   obtain ⟨_,o2,ho2,hall⟩:=mem_ready.1 hr
   have:o2=o:=Option.some.inj (ho2.symm.trans ho)
   subst this
   have hle:=hall _ (Array.getElem_mem hk) hb
   cases hoe:(l.toArray)[o2.after[k].on]? with
   | none=>rw [hoe] at hdx;cases hdx
   | some oe =>
    rw [hoe] at hdx
    exact s2 _ oe x hen hoe (by simpa using hdx) hle
 have after : ∀ {listed:Array Bool} {a' : Act} {w' w'' : World} {i:Nat} {o:Oper} {d:Tmp} {v:Value},I listed a' w' → i<n→i ∈ Region.ready .any l.toArray listed→l.toArray[i]? = some o→o.dst=some d→d<a.tmps.size →
   (∃ q,w'' = gm w' q)→F d w'' v→I (listed.setIfInBounds i true) (a'.put o.dst v) w'':=by
  intro listed a' w' w'' i o d v ⟨q,hw,hdef,hsz,hinv,s1,s2⟩ hi hr ho hd hdlt ⟨q',hq'⟩ hF
  have hdlt' : d<a'.tmps.size:=hsz ▸ hdlt
  obtain ⟨q2,hq2⟩:=gm_two w.drew q q'
  rw [hd]
  refine ⟨q2,by rw [hq',hw,hq2],hdef,(size_put _ _ _).trans hsz,hinv.set hr hi,?_,?_⟩
  ·intro t ht
   rw [qi a' d t v hdlt',if_neg]
   ·exact s1 t ht
   ·intro e
    subst e
    exact ht i hi (by rw [← hd];simpa using congrArg (Option.bind · (·.dst)) ho)
  ·intro j o' d' hj ho' hd' hl
   by_cases hij:i=j
   ·subst hij
    have e1:o' = o:=Option.some.inj (ho'.symm.trans ho)
    subst e1
    have e2:d' = d:=Option.some.inj (hd'.symm.trans hd)
    subst e2
    rw [qi a' d' d' v hdlt',if_pos rfl]
    exact hF
   ·have hne:d' ≠ d:=fun e=>by subst e;exact z3c hap hi hj hij ho ho' (hd.trans hd'.symm)
    rw [getD_set_ne false hij] at hl
    rw [qi a' d d' v hdlt',if_neg hne,hq']
    exact mono _ _ _ _ (s2 j o' d' hj ho' hd' hl)
 have hstart:I (Array.replicate l.toArray.size false) a w.drew:=by
  refine ⟨_,z0X _,rfl,rfl,⟨by simp,fun j oj _ hl=>(by rw [getD_replicate_false] at hl;cases hl),fun t _ ht=>getD_in (by simpa using ht) (getD_replicate_false _ _)⟩,fun _ _=>rfl,?_⟩
  intro i o d _ _ _ hl;rw [getD_replicate_false] at hl;cases hl
 refine z0l (n:=n) (g:=l.toArray.size-n) I (fun _ _ _ ⟨_,_,_,_,hinv,_⟩=>hinv) (fun listed inv h0=>z0R hn hdep htail inv h0) ?_ ?_ _ _ _ _ ?_ hstart
 ·-- a step
  intro listed a' w' i hI hi hr
  obtain ⟨_,o,ho,_⟩:=mem_ready.1 hr
  have hs:=sees hI hi hr ho
  have hI':=hI
  obtain ⟨q,hw,hdef,hsz,hinv,s1,s2⟩:=hI'
  obtain ⟨d,hd,hdlt⟩:=hdst i o hi ho
  have hmem:o ∈ l.take n:=List.mem_iff_getElem?.2 ⟨i,by rw [List.getElem?_take,if_pos hi];simpa using ho⟩
  have hat:=each o hmem d hd a' q hsz (by rw [← hw];exact hs)
  unfold wpOp
  rw [ho]
  by_cases hwant:Region.wanted o (yielded l.toArray a'.tmps)=true
  ·rw [if_pos hwant] at hat
   simp only [hwant,if_true]
   refine .inl ?_
   unfold Oper.wp
   rw [hw]
   generalize (execOp a'.eval o).run P (gm w.drew q)=res at hat
   cases res with
   | halt x w1=>exact hat.elim
   | ok nx w1 =>
    cases nx <;> simp only [z4G] at hat <;> simp only [Oper.upon]
    case value u =>
     obtain ⟨hF,q1,rfl⟩:=hat
     exact after hI hi hr ho hd hdlt ⟨q1,by rw [hw]⟩ hF
    case skip =>
     obtain ⟨rfl,hF⟩:=hat
     exact after hI hi hr ho hd hdlt ⟨_,by rw [hw];exact z0X _⟩ hF
    case enter f args =>
     obtain ⟨rfl,hc⟩:=hat
     refine hc.mono fun e w2 he=>?_
     obtain ⟨u,rfl,hF,q2,rfl⟩:=he
     exact after hI hi hr ho hd hdlt ⟨q2,by rw [hw]⟩ hF
  ·rw [if_neg hwant] at hat
   have hwant' : Region.wanted o (yielded l.toArray a'.tmps)=false:=by simpa using hwant
   simp only [hwant',Bool.false_eq_true,if_false]
   exact after hI hi hr ho hd hdlt ⟨_,z0X _⟩ (by rw [hw];exact hat)
 ·-- the tail
  intro listed a' w' ⟨q,hw,hdef,hsz,hinv,s1,s2⟩ h0 f hf
  have hl:=z0v hinv h0
  have hgd : ∀ i,i<n→listed.getD i false=true:=by
   intro i hi
   rw [hl]
   have:i<l.length:=by have:=hn;simp at this;omega
   simp [qV,this,hi]
  have hwl:=tail a' q hdef hsz s1 (fun t=>by
   by_cases ht : ∀ i,i<n→((l[i]?).bind (·.dst)) ≠ some t
   ·rw [s1 t ht];exact start t ht q
   ·have : ∃ i,i<n∧((l[i]?).bind (·.dst))=some t:=by
     refine Classical.byContradiction fun h=>ht fun i hi e=>h ⟨i,hi,e⟩
    obtain ⟨i,hi,e⟩:=this
    cases ho:l[i]? with
    | none=>rw [ho] at e;cases e
    | some o =>
     rw [ho] at e
     rw [← hw]
     exact s2 i o t hi (by simpa using ho) (by simpa using e) (hgd i hi))
  rw [← hw] at hwl
  have hdl:(l.drop n).length=l.toArray.size-n:=by simp
  have:=wpAny_of_seq (md := .any) (Q':=Q) (l.drop n) n listed a' w' (fun j=>by simp [List.getElem?_drop]) (by rw [hdl,hl];exact hseq) hwl
  rw [hdl] at this
  have h2:=z0m _ (f-(l.toArray.size-n)) _ _ _ this
  rwa [show l.toArray.size-n+(f-(l.toArray.size-n))=f by omega] at h2
 ·-- the fuel
  have:qa (Array.replicate l.toArray.size false) n≤n:=by
   unfold qa
   exact Nat.le_trans (List.length_filter_le _ _) (by simp)
  omega
def FofL:List Tmp→List (World→Value→Prop)→Act→Tmp→World→Value→Prop
 | d :: ds,G :: Gs,a,t,w,v=>if t=d then G w v else FofL ds Gs a t w v
 | _,_,a,t,_,v=>v=slot a t
theorem z1Q {a:Act} : ∀ (ds:List Tmp) (Gs:List (World→Value→Prop)),(∀ G ∈ Gs,∀ v w q,G w v→G (gm w q) v) → ∀ t v w q,FofL ds Gs a t w v→FofL ds Gs a t (gm w q) v
 | [],_,_,_,_,_,_,h=>h
 | _ :: _,[],_,_,_,_,_,h=>h
 | d :: ds,G :: Gs,hm,t,v,w,q,h=>by
  simp only [FofL] at h ⊢
  by_cases e:t=d
  ·rw [if_pos e] at h ⊢
   exact hm G (List.mem_cons.2 (.inl rfl)) _ _ _ h
  ·rw [if_neg e] at h ⊢
   exact z1Q ds Gs (fun G' h'=>hm G' (List.mem_cons.2 (.inr h'))) t v w q h
theorem z2Y {a:Act} : ∀ (ds:List Tmp) (Gs:List (World→Value→Prop)) (t:Tmp) (w:World),t ∉ ds→FofL ds Gs a t w (slot a t)
 | [],_,_,_,_=>rfl
 | _ :: _,[],_,_,_=>rfl
 | d :: ds,G :: Gs,t,w,h=>by
  simp only [FofL]
  rw [if_neg (fun e=>h (by rw [e];exact List.mem_cons.2 (.inl rfl)))]
  exact z2Y ds Gs t w (fun h'=>h (List.mem_cons.2 (.inr h')))
def z3O (P:Program) (ops:Array Oper) (W:World) (size:Nat) (F:Tmp→World→Value→Prop):List Oper→Prop
 | []=>True
 | o :: r=>z6I P ops W size F o∧z3O P ops W size F r
theorem z1t {P:Program} {ops:Array Oper} {W:World} {size:Nat} {F:Tmp→World→Value→Prop} : ∀ {l:List Oper},z3O P ops W size F l → ∀ o ∈ l,z6I P ops W size F o
 | [],_,_,ho=>by cases ho
 | x :: r,⟨h1,h2⟩,o,ho=>(List.mem_cons.1 ho).elim (fun e=>e ▸ h1) (fun h'=>z1t h2 o h')
def z1T:List (World→Value→Prop)→Prop
 | []=>True
 | G :: r=>(∀ v w q,G w v→G (gm w q) v)∧z1T r
theorem z0U : ∀ {l:List (World→Value→Prop)},z1T l → ∀ G ∈ l,∀ v w q,G w v→G (gm w q) v
 | [],_,_,ho=>by cases ho
 | x :: r,⟨h1,h2⟩,o,ho=>(List.mem_cons.1 ho).elim (fun e=>e ▸ h1) (fun h'=>z0U h2 o h')
theorem z7C {P:Program} {Q:Exit→Act→World→Prop} {a:Act} {w:World} {l lt lh:List Oper} (n:Nat) (ds:List Tmp) (Gs:List (World→Value→Prop)) (hB:relB l.toArray n a.tmps.size=true) (hd:dstsOf (l.take n)=ds)
  (hh:l.take n=lh) (ht:l.drop n=lt) (mono:z1T Gs) (each:z3O P l.toArray w.drew a.tmps.size (FofL ds Gs a) lh)
  (tail : ∀ (b:Act) (p:Regrown),b.defers=a.defers→b.tmps.size=a.tmps.size→(∀ t,t ∉ ds→slot b t=slot a t)→(∀ t,FofL ds Gs a t (gm w.drew p) (slot b t))→wpList P l.toArray Q lt b (gm w.drew p)) :
  wpAny P .any l.toArray Q l.toArray.size (Array.replicate l.toArray.size false) a w.drew:=by
 subst hh
 have hmem : ∀ t,t ∈ ds ↔ ∃ i,i<n∧((l[i]?).bind (·.dst))=some t:=by
  intro t
  rw [← hd,qo]
  constructor
  ·rintro ⟨o,ho,e⟩
   obtain ⟨i,hi⟩:=List.mem_iff_getElem?.1 ho
   rw [List.getElem?_take] at hi
   split at hi
   ·rename_i hlt
    exact ⟨i,hlt,by rw [hi];simpa using e⟩
   ·cases hi
  ·rintro ⟨i,hi,e⟩
   cases ho:l[i]? with
   | none=>rw [ho] at e;cases e
   | some o =>
    rw [ho] at e
    exact ⟨o,List.mem_iff_getElem?.2 ⟨i,by rw [List.getElem?_take,if_pos hi];exact ho⟩,by simpa using e⟩
 refine z6S n (FofL ds Gs a) hB ht (z1Q ds Gs (z0U mono)) (fun t h p=>z2Y ds Gs t _ (fun h'=>?_)) (z1t each) (fun b p h1 h2 h3 h4=>tail b p h1 h2 (fun t h=>h3 t (fun i hi e=>h ((hmem t).2 ⟨i,hi,e⟩))) h4)
 obtain ⟨i,hi,e⟩:=(hmem t).1 h'
 exact h i hi e
end Go.Proofs.YtbkkginjfnjffaaGreatDoor.Dn
namespace Go.Proofs.YtbkkginjfnjffaaGreatDoor
open Go.RowKit Go.Sort
inductive Tr (P:Program) (ops:Array Oper):List Oper→ASt→ASt→Prop where
 | nil (s:ASt):Tr P ops [] s s
 | val {o:Oper} {rest:List Oper} {s s' : ASt} {av:AV} {d:Nat} (hg:o.guard=none) (h:qB P ops o s av) (hd:o.dst=some d) (hn:d<s.n) (k:Tr P ops rest (s.put (some d) av) s'):Tr P ops (o :: rest) s s'
 | cond {o:Oper} {rest:List Oper} {s s' : ASt} {av:AV} {d g t:Nat} {b want:Bool} (hg:o.guard=some (g,want)) (ht:(ops[g]?).bind (·.dst)=some t) (hb:s.get t = .bool b) (h:b=want→qB P ops o s av) (hd:o.dst=some d) (hn:d<s.n)
   (k:Tr P ops rest (s.put (some d) (if b=want then av else .tup [])) s'):Tr P ops (o :: rest) s s'
 | und {o:Oper} {rest:List Oper} {s s' : ASt} {d g t:Nat} {want:Bool} (hg:o.guard=some (g,want)) (ht:(ops[g]?).bind (·.dst)=some t) (hb:s.get t = .tup []) (hd:o.dst=some d) (hn:d<s.n)
   (k:Tr P ops rest (s.put (some d) (.tup [])) s'):Tr P ops (o :: rest) s s'
theorem Tr.same {P:Program} {ops:Array Oper} {l:List Oper} {s s' : ASt} (h:Tr P ops l s s'):s'.hp=s.hp∧s'.n=s.n∧s'.N=s.N ∧ ∀ t,(∀ o ∈ l,o.dst ≠ some t)→s'.get t=s.get t:=by
 induction h with
 | nil s=>exact ⟨rfl,rfl,rfl,fun _ _=>rfl⟩
 | val hg h hd hn k ih =>
  obtain ⟨h1,h2,h3,h4⟩:=ih
  refine ⟨h1,h2,h3,fun t ht=>?_⟩
  rw [h4 t (fun o ho=>ht o (List.mem_cons.2 (.inr ho))),ASt.get_put,if_neg]
  exact fun e=>ht _ (List.mem_cons.2 (.inl rfl)) (by rw [hd,e])
 | cond hg ht hb h hd hn k ih =>
  obtain ⟨h1,h2,h3,h4⟩:=ih
  refine ⟨h1,h2,h3,fun t ht=>?_⟩
  rw [h4 t (fun o ho=>ht o (List.mem_cons.2 (.inr ho))),ASt.get_put,if_neg]
  exact fun e=>ht _ (List.mem_cons.2 (.inl rfl)) (by rw [hd,e])
 | und hg ht hb hd hn k ih =>
  obtain ⟨h1,h2,h3,h4⟩:=ih
  refine ⟨h1,h2,h3,fun t ht=>?_⟩
  rw [h4 t (fun o ho=>ht o (List.mem_cons.2 (.inr ho))),ASt.get_put,if_neg]
  exact fun e=>ht _ (List.mem_cons.2 (.inl rfl)) (by rw [hd,e])
def z6r (ops:Array Oper):List Oper→Bool
 | []=>true
 | o :: r=>(o :: r).all (fun o'=>match o'.dst with|some d => !(o.looksAt ops).contains d|none=>true)&&z6r ops r
theorem z3D {X:Nat→Prop} {ops:Array Oper} {L:Lim} {s:ASt} {loc:Nat→Option Value} {a:Act} {w:World} {o:Oper} {g t:Nat} {want:Bool} (hr:Rel X L s loc a w) (hX:X t) (hg:o.guard=some (g,want)) (ht:(ops[g]?).bind (·.dst)=some t) (hb:s.get t = .tup []):Region.wanted o (yielded ops a.tmps)=false:=by
  have h1:=hr.fr t hX
  rw [hb] at h1
  have h2:slot a t = .tuple #[]:=by
    generalize hv:slot a t=v at h1
    cases h1 with
    | tup cs vs hl _ => have : vs = #[] := Array.eq_empty_of_size_eq_zero (by simpa using hl)
                        rw [this]
  have h3 : ∀ b,a.tmps[t]? ≠ some (.bool b):=fun b e=>by
    unfold slot at h2
    rw [Array.getD_eq_getD_getElem?,e] at h2
    cases h2
  simp only [Region.wanted,hg,yielded,ht,Option.bind_some]
  cases h4:a.tmps[t]? with
  | none=>rfl
  | some v =>
    cases v <;> first|rfl|exact absurd h4 (h3 _)
theorem Tr.each {P:Program} {ops:Array Oper} {l:List Oper} {s s' : ASt} (h:Tr P ops l s s') (hap:(dstsOf l).Nodup) (hl:z6r ops l=true) : ∀ o ∈ l,∃ d,o.dst=some d∧d<s.n ∧
  ∀ L loc (a:Act) (w:World),a.tmps.size=s.n→HRel L s.N s.hp loc w→(∀ t ∈ o.looksAt ops,AR s.N (Dm L loc) loc w (s'.get t) (slot a t)) →
   if Region.wanted o (yielded ops a.tmps)=true then
    (∃ v w',(execOp a.eval o).run P w = .ok (.value v) w' ∧ Blw w.heap.size w w' ∧ AR s.N (Dm L loc) loc w' (s'.get d) v) ∨
    (∃ f args,(execOp a.eval o).run P w = .ok (.enter f args) w∧Calls P f args w fun e w' => ∃ v,e = .returned v∧Blw w.heap.size w w' ∧ AR s.N (Dm L loc) loc w' (s'.get d) v)
   else AR s.N (Dm L loc) loc w (s'.get d) undef:=by
 have back : ∀ {o:Oper} {rest:List Oper} {s s' : ASt} {d:Nat} {x:AV},Tr P ops rest (s.put (some d) x) s' → o.dst=some d→z6r ops (o :: rest)=true → ∀ t ∈ o.looksAt ops,s'.get t=s.get t:=by
  intro o rest s s' d x k hd hl t ht
  simp only [z6r,Bool.and_eq_true,List.all_eq_true] at hl
  have hno : ∀ o' ∈ o :: rest,o'.dst ≠ some t:=fun o' ho' e=>by
   have:=hl.1 o' ho'
   rw [e] at this
   simp at this
   exact this ht
  rw [k.same.2.2.2 t (fun o' ho'=>hno o' (List.mem_cons.2 (.inr ho'))),ASt.get_put,if_neg (fun e=>hno o (List.mem_cons.2 (.inl rfl)) (by rw [hd,e]))]
 have mine : ∀ {o:Oper} {rest:List Oper} {s s' : ASt} {d:Nat} {x:AV},Tr P ops rest (s.put (some d) x) s' → o.dst=some d→(dstsOf (o :: rest)).Nodup→s'.get d=x:=by
  intro o rest s s' d x k hd hn
  rw [k.same.2.2.2 d (fun o' ho' e=>?_),ASt.get_put,if_pos rfl]
  simp only [dstsOf,List.filterMap_cons,hd] at hn
  exact (List.nodup_cons.1 hn).1 (List.mem_filterMap.2 ⟨o',ho',e⟩)
 have tail : ∀ {o:Oper} {rest:List Oper},(dstsOf (o :: rest)).Nodup→(dstsOf rest).Nodup:=by
  intro o rest hn
  simp only [dstsOf,List.filterMap_cons] at hn
  split at hn
  ·exact hn
  ·exact (List.nodup_cons.1 hn).2
 have act : ∀ {s:ASt} {L:Nat→Prop} {loc:Nat→Option Value} {a:Act} {w:World} {o:Oper} {s' : ASt},a.tmps.size=s.n→HRel L s.N s.hp loc w→(∀ t ∈ o.looksAt ops,AR s.N (Dm L loc) loc w (s'.get t) (slot a t))→(∀ t ∈ o.looksAt ops,s'.get t=s.get t)→Rel (looks ops o) ⟨L,[]⟩ s loc { tmps:=a.tmps,defers := [] } w:=by
  intro s L loc a w o s' h1 h2 h3 h4
  exact ⟨rfl,h1,fun t ht=>by rw [← h4 t ht];exact h3 t ht,h2⟩
 have ev : ∀ (a:Act),Act.eval { tmps:=a.tmps,defers := [] } = a.eval:=fun a=>by funext x;cases x <;> rfl
 induction h with
 | nil s=>intro o ho;cases ho
 | @val o rest s s' av d hg h hd hn k ih =>
  intro o' ho'
  rcases List.mem_cons.1 ho' with rfl|ho'
  ·refine ⟨d,hd,hn,fun L loc a w h1 h2 h3=>?_⟩
   have hr:=act h1 h2 h3 (back k hd hl)
   rw [if_pos (by simp [Region.wanted,hg]),mine k hd hap,← ev a]
   exact h ⟨L,[]⟩ loc _ w hr
  ·simp only [z6r,Bool.and_eq_true] at hl
   exact ih (tail hap) hl.2 o' ho'
 | @cond o rest s s' av d g t b want hg ht hb h hd hn k ih =>
  intro o' ho'
  rcases List.mem_cons.1 ho' with rfl|ho'
  ·refine ⟨d,hd,hn,fun L loc a w h1 h2 h3=>?_⟩
   have hr:=act h1 h2 h3 (back k hd hl)
   have hm:t ∈ o'.looksAt ops:=List.mem_append.2 (.inr (by simp [hg,ht]))
   have hbt:=z0Q hr (t:=t) hm hb
   have hwt:Region.wanted o' (yielded ops a.tmps)=(b==want):=by
    simp only at hbt
    simp only [Region.wanted,hg,yielded,ht,hbt,Option.bind_some]
    cases b <;> cases want <;> rfl
   rw [hwt,mine k hd hap,← ev a]
   by_cases e:b=want
   ·rw [if_pos (by simpa using e),if_pos e]
    exact h e ⟨L,[]⟩ loc _ w hr
   ·rw [if_neg (by simpa using e),if_neg e]
    exact .tup [] #[] rfl (fun j x hx=>by simp at hx)
  ·simp only [z6r,Bool.and_eq_true] at hl
   exact ih (tail hap) hl.2 o' ho'
 | @und o rest s s' d g t want hg ht hb hd hn k ih =>
  intro o' ho'
  rcases List.mem_cons.1 ho' with rfl|ho'
  ·refine ⟨d,hd,hn,fun L loc a w h1 h2 h3=>?_⟩
   have hr:=act h1 h2 h3 (back k hd hl)
   have hm:t ∈ o'.looksAt ops:=List.mem_append.2 (.inr (by simp [hg,ht]))
   have hun:=z3D (o:=o') hr hm hg ht hb
   simp only at hun
   rw [if_neg (by rw [hun];simp),mine k hd hap]
   exact .tup [] #[] rfl (fun j x hx=>by simp at hx)
  ·simp only [z6r,Bool.and_eq_true] at hl
   exact ih (tail hap) hl.2 o' ho'
theorem z5m {ds:List Tmp} {G:Tmp→World→Value→Prop} {a:Act} {t:Tmp} {w:World} {v:Value} : Dn.FofL ds (ds.map G) a t w v↔(t ∈ ds∧G t w v)∨(t ∉ ds∧v=slot a t):=by
 induction ds with
 | nil=>simp [Dn.FofL]
 | cons d r ih =>
  simp only [List.map_cons,Dn.FofL]
  by_cases e:t=d
  ·subst e;simp
  ·rw [if_neg e,ih];simp [e]
theorem z6H {P:Program} {ops:Array Oper} {W:World} {size:Nat} {F:Tmp→World→Value→Prop} : ∀ {l:List Oper},(∀ o ∈ l,Dn.z6I P ops W size F o)→Dn.z3O P ops W size F l
 | [],_=>trivial
 | o :: r,h=>⟨h o (List.mem_cons.2 (.inl rfl)),z6H fun x hx=>h x (List.mem_cons.2 (.inr hx))⟩
theorem z4Y : ∀ {l:List (World→Value→Prop)},(∀ G ∈ l,∀ v w q,G w v→G (gm w q) v)→Dn.z1T l
 | [],_=>trivial
 | G :: r,h=>⟨h G (List.mem_cons.2 (.inl rfl)),z4Y fun x hx=>h x (List.mem_cons.2 (.inr hx))⟩
def drawB (l:List Oper) (n size:Nat):Bool:=Dn.relB l.toArray n size&&decide ((dstsOf (l.take n)).Nodup)&&z6r l.toArray (l.take n)
theorem T.draw {F:Fence} [FOk F] {P:Program} {Q:Exit→ASt→Prop} {s s' : ASt} {id:Nat} {l lt:List Oper} (n:Nat) (hm:P.follows .mixedOrders=true) (hnd:z1r l=true) (hB:drawB l n s.n=true) (ht:l.drop n=lt) (h:Tr P l.toArray (l.take n) s s') (k:TL P l.toArray (NQ Q) lt s'):T F P (.region id l.toArray true) Q s:=fun L loc a w hr=>by
 refine wpIn_mono (wpIn_region_any hm (z3G NQ.out (z0i hnd) _ _ _ _ ?_)) fun _ _ _ k=>NQ.post k
 change wpAny P .any l.toArray (z0r L loc w (NQ Q)) _ _ a w.drew
 simp only [drawB,Bool.and_eq_true,decide_eq_true_eq] at hB
 obtain ⟨⟨hB,hnd⟩,hlate⟩:=hB
 have hsame:=h.same
 have hr0:HRel L s.N s.hp loc w.drew:=hr.hp.below (Blw.refl _ _).drew
 have hrp : ∀ p,HRel L s.N s.hp loc (gm w.drew p):=fun p=>hr0.below (z5y _ p)
 have bl : ∀ p,Blw w.heap.size w (gm w.drew p):=fun p=>((Blw.refl _ w).drew).trans (z5y w.drew p)
 let G:Tmp→World→Value→Prop:=fun t W v=>AR s.N (Dm L loc) loc W (s'.get t) v
 have all : ∀ {t:Tmp} {p:Regrown} {v:Value},Dn.FofL (dstsOf (l.take n)) ((dstsOf (l.take n)).map G) a t (gm w.drew p) v→AR s.N (Dm L loc) loc (gm w.drew p) (s'.get t) v:=by
  intro t p v hF
  rcases z5m.1 hF with ⟨_,h1⟩|⟨h1,rfl⟩
  ·exact h1
  ·rw [hsame.2.2.2 t (fun o ho e=>h1 (List.mem_filterMap.2 ⟨o,ho,e⟩))]
   exact (hr.fr t trivial).blw (bl p)
 refine Dn.z7C n (dstsOf (l.take n)) ((dstsOf (l.take n)).map G) (by rw [hr.size];exact hB) rfl rfl ht (z4Y fun G' hG'=>?_) (z6H fun o ho=>?_) (fun b p hdf hsz hout hF=>?_)
 ·obtain ⟨d,_,rfl⟩:=List.mem_map.1 hG'
  exact fun v W q h=>h.blw (z5y W q)
 ·intro d hd b p hsz hs
  obtain ⟨d',hd',_,hev⟩:=h.each hnd hlate o ho
  rw [hd] at hd'
  cases hd'
  have h1:=hev L loc b (gm w.drew p) (hsz.trans hr.size) (hrp p) (fun t ht=>all (hs t ht))
  have hdm:d ∈ dstsOf (l.take n):=List.mem_filterMap.2 ⟨o,ho,hd⟩
  split
  ·rename_i hw
   rw [if_pos hw] at h1
   rcases h1 with ⟨v,w',e1,e2,e3⟩|⟨f,args,e1,e2⟩
   ·rw [e1]
    exact ⟨z5m.2 (.inl ⟨hdm,e3⟩),z4v e2⟩
   ·rw [e1]
    exact ⟨rfl,e2.mono fun e w' ⟨v,g1,g2,g3⟩=>⟨v,g1,z5m.2 (.inl ⟨hdm,g3⟩),z4v g2⟩⟩
  ·rename_i hw
   rw [if_neg hw] at h1
   exact z5m.2 (.inl ⟨hdm,h1⟩)
 ·have hrel:Rel All L s' loc b (gm w.drew p):=⟨hdf.trans hr.defers,by rw [hsz,hr.size,hsame.2.1],fun t _=>by rw [hsame.2.2.1];exact all (hF t),by rw [hsame.1,hsame.2.2.1];exact hrp p⟩
  exact z0k (fun _ _ _ k=>k.ext (.of_below (bl p))) lt b _ (k L loc b _ hrel)
def WOv (P:Program) (o:Oper) (s:ASt) (K:ASt→Prop):Prop:=match o.op with
 | .call { callee := .value (.func f),args:=args,.. } => ∃ r,CallV P s f (args.toList.map s.ev) r∧K (s.put o.dst r)
 | .call { callee := .value (.tmp t),args:=args,.. }=>match s.get t with
  | .fn (.func f) caps => ∃ r,CallR P s f caps (args.toList.map s.ev) r∧K (s.put o.dst r)
  | _=>False
 | op=>match aop P s op with
  | some av=>K (s.put o.dst av)
  | none=>False
def hasDst (o:Oper) (s:ASt):Prop:=match o.dst with
 | some d=>d<s.n
 | none=>False
def WH (P:Program) (ds:List (Option Nat)) (o:Oper) (s:ASt) (K:ASt→Prop):Prop:=hasDst o s∧match o.guard with
 | none=>WOv P o s K
 | some (g,want)=>match ds[g]? with
  | some (some t)=>match s.get t with
   | .p (.val (.bool b))=>WG b want (WOv P o (s.put (some t) (.bool want)) K) (K ((s.put (some t) (.bool (!want))).put o.dst (.tup [])))
   | .tup []=>K (s.put o.dst (.tup []))
   | _=>False
  | _=>False
def WD (P:Program) (ds:List (Option Nat)) (Q:ASt→Prop):Nat→List Oper→ASt→Prop
 | 0,l,s=>WL P ds Q l s
 | _+1,[],s=>Q s
 | n+1,o :: rest,s=>WH P ds o s (WD P ds Q n rest)
theorem WD.step {P:Program} {ds:List (Option Nat)} {Q:ASt→Prop} {n:Nat} {o:Oper} {rest:List Oper} {s:ASt} (h : ∀ K:ASt→Prop,(∀ s,WD P ds Q n rest s→K s)→WH P ds o s K):WD P ds Q (n+1) (o :: rest) s:=h _ fun _ h=>h
theorem WD.fin {P:Program} {ds:List (Option Nat)} {Q:ASt→Prop} {l:List Oper} {s:ASt} (h:WL P ds Q l s):WD P ds Q 0 l s:=h
theorem Tr.congr {P:Program} {ops:Array Oper} {l:List Oper} {s s' : ASt} (h:Tr P ops l s s') : ∀ {s2:ASt},Sq s s2 → ∃ s2',Tr P ops l s2 s2' ∧ Sq s' s2':=by
 induction h with
 | nil s=>exact fun k=>⟨_,.nil _,k⟩
 | val hg h hd hn k ih =>
  intro s2 e
  obtain ⟨s2',h1,h2⟩:=ih (e.put (some _) _)
  exact ⟨s2',.val hg (e.val h) hd (by rw [e.n];exact hn) h1,h2⟩
 | cond hg ht hb h hd hn k ih =>
  intro s2 e
  obtain ⟨s2',h1,h2⟩:=ih (e.put (some _) _)
  exact ⟨s2',.cond hg ht (by rw [e.get];exact hb) (fun g=>e.val (h g)) hd (by rw [e.n];exact hn) h1,h2⟩
 | und hg ht hb hd hn k ih =>
  intro s2 e
  obtain ⟨s2',h1,h2⟩:=ih (e.put (some _) _)
  exact ⟨s2',.und hg ht (by rw [e.get];exact hb) hd (by rw [e.n];exact hn) h1,h2⟩
theorem WD.sound {P:Program} {ops:Array Oper} {Q:Exit→ASt→Prop} : ∀ {n:Nat} {l:List Oper} {s:ASt},WD P (ops.toList.map (·.dst)) (Q .normal) n l s → ∃ s',Tr P ops (l.take n) s s' ∧ TL P ops Q (l.drop n) s'
 | 0,l,s,h=>⟨s,by rw [List.take_zero];exact .nil s,WL.sound h⟩
 | n+1,[],s,h=>⟨s,.nil s,TL.nil h⟩
 | n+1,o :: rest,s,h=>by
  obtain ⟨hd,h⟩:=h
  obtain ⟨d,hd',hn⟩ : ∃ d,o.dst=some d∧d<s.n:=by
   unfold hasDst at hd
   split at hd
   ·exact ⟨_,‹_›,hd⟩
   ·exact hd.elim
  have dec : ∀ {s:ASt} {K:ASt→Prop},WOv P o s K → ∃ av,qB P ops o s av∧K (s.put o.dst av):=fun {s K} h=>by
   unfold WOv at h
   split at h
   ·rename_i f args tys ho
    obtain ⟨r,h1,h2⟩:=h
    exact ⟨r,h1.val ho,h2⟩
   ·rename_i t args tys ho
    split at h
    ·rename_i f caps hf
     obtain ⟨r,h1,h4⟩:=h
     exact ⟨r,h1.val ho hf,h4⟩
    ·exact h.elim
   ·split at h
    ·rename_i av hav
     exact ⟨av,z3b hav,h⟩
    ·exact h.elim
  split at h
  ·rename_i hg
   obtain ⟨av,hv,k⟩:=dec h
   rw [hd'] at k
   obtain ⟨s',h1,h2⟩:=WD.sound k
   exact ⟨s',.val hg hv hd' hn h1,h2⟩
  ·rename_i g want hg
   split at h
   ·rename_i t ht
    have ht' : (ops[g]?).bind (·.dst)=some t:=by
     simp only [List.getElem?_map,Option.map_eq_some_iff,Array.getElem?_toList] at ht
     obtain ⟨o',h1,h2⟩:=ht
     rw [h1];exact h2
    split at h
    ·rename_i b hb
     by_cases hbw:b=want
     ·have e:=Sq.same (s:=s) (t:=t) (x := .bool want) (by rw [hb,hbw])
      obtain ⟨av,hv,k⟩:=dec (h.1 hbw)
      rw [hd'] at k
      obtain ⟨s',h1,h2⟩:=WD.sound k
      obtain ⟨s2,h3,h4⟩:=h1.congr (e.symm.put (some d) av)
      exact ⟨s2,.cond (av:=av) hg ht' hb (fun _=>e.symm.val hv) hd' hn (by rw [if_pos hbw];exact h3),TL.weak h4.symm.weak h2⟩
     ·have hbn:b=(!want):=by cases b <;> cases want <;> simp_all
      have e:=Sq.same (s:=s) (t:=t) (x := .bool (!want)) (by rw [hb,hbn])
      have k:=h.2 hbn
      rw [hd'] at k
      obtain ⟨s',h1,h2⟩:=WD.sound k
      obtain ⟨s2,h3,h4⟩:=h1.congr (e.symm.put (some d) (.tup []))
      exact ⟨s2,.cond (av := .zy) hg ht' hb (fun e=>absurd e hbw) hd' hn (by rw [if_neg hbw];exact h3),TL.weak h4.symm.weak h2⟩
    ·rename_i hb
     rw [hd'] at h
     obtain ⟨s',h1,h2⟩:=WD.sound h
     exact ⟨s',.und hg ht' hb hd' hn h1,h2⟩
    ·exact h.elim
   ·exact h.elim
theorem T.draw' {F:Fence} [FOk F] {P:Program} {Q:Exit→ASt→Prop} {s:ASt} {id:Nat} {l:List Oper} (n:Nat) (hm:P.follows .mixedOrders=true) (hnd:z1r l=true) (hB:drawB l n s.n=true) (h:WD P (l.map (·.dst)) (Q .normal) n l s):T F P (.region id l.toArray true) Q s:=by
 obtain ⟨s',h1,h2⟩:=WD.sound (ops:=l.toArray) (Q:=NQ Q) (by rw [show NQ Q .normal=Q .normal from funext (NQ.normal Q)];simpa using h)
 exact T.draw n hm hnd hB rfl h1 h2
section
variable {F:Fence} {P:Program} {Q:Exit→ASt→Prop} {s:ASt}
theorem T.zk {x y:Code} (h : ∀ K:ASt→Prop,(∀ s,T F P y Q s→K s)→T F P x (ze K Q) s):T F P (.seq x y) Q s:=T.seq (h _ fun _ h=>h)
theorem T.reg [FOk F] {id:Nat} {l:List Oper} (hd:z1r l=true) (h : ∀ K:ASt→Prop,(∀ s,Q .normal s→K s)→WL P (l.map (·.dst)) K l s):T F P (.region id l.toArray false) Q s:=T.region' hd (h _ fun _ h=>h)
theorem T.drw [FOk F] {id:Nat} {l:List Oper} (n:Nat) (hm:P.follows .mixedOrders=true) (hB:(z1r l&&drawB l n s.n)=true) (h : ∀ K:ASt→Prop,(∀ s,Q .normal s→K s)→WD P (l.map (·.dst)) K n l s):T F P (.region id l.toArray true) Q s:=T.draw' n hm (Bool.and_eq_true_iff.1 hB).1 (Bool.and_eq_true_iff.1 hB).2 (h _ fun _ h=>h)
theorem T.zh {c:Operand} {x y:Code} (hc:s.ev c = .p (.val (.bool true))) (h:T F P x Q s):T F P (.cond c x y) Q s:=T.cond hc (fun _=>h) (fun e=>by cases e)
theorem T.zg {c:Operand} {x y:Code} (hc:s.ev c = .p (.val (.bool false))) (h:T F P y Q s):T F P (.cond c x y) Q s:=T.cond hc (fun e=>by cases e) (fun _=>h)
theorem T.z02 {ι:Type} {c:Code} (S : ι→ASt) (I : ι→Prop) (μ : ι→Nat) (i₀ : ι) (hI:I i₀) (h0:zi s (S i₀)) (hr : ∀ i,I i → ∀ K:ASt→Prop,(∀ s' j,zi s' (S j)→I j → μ j<μ i→K s')→T F P c (ze K Q) (S i)):T F P (.loop c) Q s :=
 T.loop (ι := {i : ι // I i}) (fun i=>S i.1) (fun i => μ i.1) ⟨i₀,hI⟩ h0 fun i=>hr i.1 i.2 _ fun _ j h1 h2 h3=>⟨⟨j,h2⟩,h1,h3⟩
end
theorem z4p (k:IntKind) (n:Int):cv (.int k n) = .p (.val (.int k n)):=rfl
theorem cv_bool (b:Bool):cv (.bool b) = .p (.val (.bool b)):=rfl
theorem z7J (a:Option Addr) (n c:Nat):cv (.slice a n c) = .p (.val (.slice a n c)):=rfl
theorem cv_string (s:ByteArray):cv (.string s) = .p (.val (.string s)):=rfl
theorem cv_ptr (a:Option Addr):cv (.pointer a) = .p (.val (.pointer a)):=rfl
theorem z5b (fr:List (Nat × AV)) (hp:Hp) (n N t:Nat):ASt.get ⟨fr,hp,n,N⟩ t=(fr.lookup t).getD .zy:=rfl
theorem z07 (fr:List (Nat × AV)) (hp:Hp) (n N t:Nat) (x:AV):ASt.put ⟨fr,hp,n,N⟩ (some t) x=⟨(t,x) :: fr,hp,n,N⟩:=rfl
theorem z8j (s:ASt) (x:AV):ASt.put s none x=s:=rfl
theorem qp {α:Type} (t:Nat):List.lookup t ([] : List (Nat × α))=none:=rfl
theorem zq {α:Type} (t k:Nat) (x : α) (l:List (Nat × α)):List.lookup t ((k,x) :: l)=if t=k then some x else List.lookup t l:=by
 by_cases h:t=k
 ·subst h;simp
 ·have:(t==k)=false:=by simpa using h
  rw [List.lookup_cons,this,if_neg h]
theorem AV.z6N (t:Nat) (y:AV) (x:PV):AV.sub t y (.p x) = .p x:=by simp [AV.sub]
theorem AV.z2S (t:Nat) (y:AV) (r:List PV) (k:Nat):AV.sub t y (.elt r k) = .elt r k:=by simp [AV.sub]
theorem AV.z2V (t:Nat) (y:AV) (k j:Nat):AV.sub t y (.ptr k j)=if k=t then .zy else .ptr k j:=by simp [AV.sub]
theorem AV.z1M (t:Nat) (y:AV) (k n i j:Nat):AV.sub t y (.rptr k n i j)=if k=t then .zy else .rptr k n i j:=by simp [AV.sub]
theorem AV.z2U (t:Nat) (y:AV) (k:Nat):AV.sub t y (.own k)=if k=t then y else .own k:=by simp [AV.sub]
theorem AV.sub_pre (t:Nat) (y:AV) (k m:Nat):AV.sub t y (.pre k m)=if k=t then .zy else .pre k m:=by simp [AV.sub]
theorem AV.z1L (t:Nat) (y:AV):AV.sub t y .zy = .zy:=by simp [AV.sub]
theorem AV.z1K (t:Nat) (y:AV):AV.sub t y .cap0 = .cap0:=by simp [AV.sub]
theorem ml_1:(1≤maxLen)=True:=eq_true (by decide)
theorem ml_3:(3≤maxLen)=True:=eq_true (by decide)
theorem ml_7:(7≤maxLen)=True:=eq_true (by decide)
theorem ml_21:(21≤maxLen)=True:=eq_true (by decide)
theorem z15 {x:Int} (h0 : -9223372036854775808≤x) (h1:x≤9223372036854775807):IntKind.i64.wrap x=x:=by rw [IntKind.wrap_i64];omega
theorem AVle_refl (x:AV):AVle x x=True:=eq_true (AVle.refl x)
theorem AVle_nil (n:Nat):AVle (.p (.val (.slice none 0 0))) (.p (.seq n []))=True:=eq_true (AVle.nil n)
theorem AVle_junk (x:AV):AVle x .zy=True:=eq_true (AVle.zy x)
theorem AVle_int (k:IntKind) (a b:Int):AVle (.p (.val (.int k a))) (.p (.val (.int k b)))=(a=b):=propext ⟨fun h=>by
 have h1:=h 0 (fun _=>False) (fun _=>none) default (.int k a) (.qC _ rfl)
 have:=h1.val
 cases this;rfl,fun h=>h ▸ AVle.refl _⟩
theorem AVle_bool (a b:Bool):AVle (.p (.val (.bool a))) (.p (.val (.bool b)))=(a=b):=propext ⟨fun h=>by
 have h1:=h 0 (fun _=>False) (fun _=>none) default (.bool a) (.qC _ rfl)
 have:=h1.val
 cases this;rfl,fun h=>h ▸ AVle.refl _⟩
theorem zi.of' {s s' : ASt} (hn:s'.n=s.n) (h:(∀ p ∈ s'.fr,AVle (s.get p.1) p.2)∧(∀ p ∈ s'.hp,s.hp.lookup p.1=some p.2)∧s'.okB=true):zi s s':=zi.of hn h.1 h.2.1 h.2.2
theorem Ent.of {P : Program} {f : FuncId} {fn : Func} {c : Code} (hf : P.funcs[f]? = some fn) (hname : (fn.name == "runtime.NumGoroutine") = false) (hb : fn.body = some c) : Ent P f := fun args w => by
  have h1 : fn.name ≠ "runtime.NumGoroutine" := by simpa using hname
  simp [callFunc, hf, h1, hb, mark]
theorem zx {k:Nat} (h:k<1152921504606846976):IntKind.i64.wrap ((k:Int)+1)=((k+1:Nat):Int):=by rw [IntKind.wrap_i64];omega
theorem zP.ret {P:Program} {fn:Func} {r:AV} {s:ASt} {e:Exit} (he:e = .normal∨e = .ret) {rs:Array ResultVar} (hrs:fn.results=rs) (h:zI P s rs.toList=some r):zP P fn r e s:=⟨he,s,zi.refl _,by rw [hrs];exact h⟩
theorem zP.retW {P:Program} {fn:Func} {r:AV} {s s' : ASt} {e:Exit} (he:e = .normal∨e = .ret) {rs:Array ResultVar} (hrs:fn.results=rs) (hw:zi s s') (h:zI P s' rs.toList=some r):zP P fn r e s:=⟨he,s',hw,by rw [hrs];exact h⟩
section
variable {P:Program} {o:Oper} {s:ASt}
theorem z8O (x y:Operand) (ty tag:Nat) (e n bytes:Nat) (rows ys:List (List PV)) (h:o.op = .call { callee := .builtin .append,args := #[x,y],argTypes := #[ty,ty] }) (hx:s.ev x = .own tag) (hlk:s.hp.lookup tag=some (.row e n rows))
  (ht:zY P ty=some (e,n,bytes)) (hy:s.ev y = .p (.seq n ys)) (h63:rows.length+ys.length≤maxLen) (hbytes:(rows.length+ys.length)*bytes≤140737488355328) (hd : ∀ t,o.dst=some t→t<s.n) :
  z0L P o s (ASt.put { s with hp:=(s.N,.row e n (rows++ys)) :: s.hp.filter fun p=>p.1 != tag,N:=s.N+1 } o.dst (.own s.N)):=fun L loc a w hr=>by
 have h1:=hr.ev x (fun _ _=>trivial)
 have h2:=hr.ev y (fun _ _=>trivial)
 rw [hx] at h1
 rw [hy] at h2
 obtain ⟨htN,u,hu,hor⟩:=hr.hp.at' tag _ hlk
 obtain ⟨flat,hown,hrn,hfl,hone⟩:=hor
 generalize hax:a.eval x=ax at h1
 cases h1 with
 | own _ _ _ _ hv =>
 obtain rfl:u=ax:=(hv u hu).symm
 generalize hay:a.eval y=ay at h2
 cases h2 with
 | p _ _ hp =>
 obtain ⟨v',w',news,hrun,hown',hg,hat,hone2,hyn,hpr⟩:=z0z (P:=P) (ty:=o.type) (z0g ht) hown hp h63 hbytes
 let loc2:Nat→Option Value:=fun k=>if k=s.N then some v' else if k=tag then none else loc k
 have lN:loc2 s.N=some v':=by simp [loc2]
 have lO : ∀ k z,loc2 k=some z→(k=s.N∧z=v')∨(k ≠ s.N∧k ≠ tag∧loc k=some z):=fun k z hz=>by
  simp only [loc2] at hz
  split at hz
  ·rename_i e1;cases hz;exact .inl ⟨e1,rfl⟩
  ·rename_i e1
   split at hz
   ·cases hz
   ·rename_i e2;exact .inr ⟨e1,e2,hz⟩
 have lS : ∀ k,k ≠ s.N→k ≠ tag→loc2 k=loc k:=fun k h1 h2=>by simp [loc2,h1,h2]
 have hblk : ∀ b,ql v' = some b→ql u=some b∨b=w.heap.size:=fun b hb=>by
  have hb':=z5N hown' hb
  rcases hat with e'|e'
  ·rw [e'] at hb';exact .inl (z0u hb')
  ·rw [e'] at hb';cases hb';exact .inr rfl
 have hDu : ∀ b,u.ownBlock=some b→Dm L loc b:=fun b hb => .inr ⟨tag,u,hu,z0u hb⟩
 have hk:Kp (Dm L loc) w w':=⟨hg.os,hg.tape,hg.output,hg.size,fun k hk hn=>hg.block k hk (fun e=>hn (hDu k e.symm))⟩
 have hdm : ∀ b,Dm L loc2 b→Dm L loc b∨b=w.heap.size:=fun b hb=>by
  rcases hb with hb|⟨k,z,h3,h4⟩
  ·exact .inl (.inl hb)
  ·rcases lO k z h3 with ⟨_,rfl⟩|⟨_,_,h5⟩
   ·exact (hblk b h4).imp (fun h => .inr ⟨tag,u,hu,h⟩) (fun h=>h)
   ·exact .inl (.inr ⟨k,z,h5,h4⟩)
 have hD : ∀ k,k<w.heap.size→Dm L loc2 k→Dm L loc k:=fun k hk hd=>(hdm k hd).resolve_right (by omega)
 have hlc : ∀ k z,k<s.N→loc2 k=some z→loc k=some z:=fun k z hlt hz=>by
  rcases lO k z hz with ⟨e1,_⟩|⟨_,_,h5⟩
  ·omega
  ·exact h5
 have hrun' : (execOp a.eval o).run P w = .ok (.value v') w':=by
  simp only [execOp,h,resolve,invoke,builtin,Sem.run_bind,Sem.run_pure,Result.andThen_ok,List.map_toArray,List.map_cons,List.map_nil,hax,hay,hrun]
 have hv1:v'.oneCell' = true:=by rcases hown'.2 with ⟨rfl,_⟩|⟨g,c,cur,rfl,_⟩ <;> rfl
 have hNd:loc s.N=none:=hr.hp.dead s.N (hr.hp.z5H (Nat.le_refl _))
 unfold Oper.wp
 rw [hrun']
 refine ⟨loc2,?_,⟨⟨hg.os,hg.tape,hg.output,hg.size,fun k hk hn=>hg.block k hk (fun e=>hn (.inr ⟨tag,u,hu,z0u e.symm⟩))⟩,fun b hb=>?_⟩⟩
 ·refine Rel.put' (s := { s with hp:=(s.N,.row e n (rows++ys)) :: s.hp.filter fun p=>p.1 != tag,N:=s.N+1 }) ⟨hr.defers,hr.size,fun t _=>?_,⟨fun t ob ht=>?_,fun t ht=>?_,fun t t' z z' b e1 e2 e3 e4=>?_,fun b hL=>Nat.lt_of_lt_of_le (hr.hp.inL b hL) hg.size,fun t z b e1 e2 hL=>?_⟩⟩ hd (.own s.N v' (Nat.lt_succ_self _) hv1 fun z hz=>?_)
  ·exact (hr.fr t trivial).mono (Nat.le_succ _) hk hD hlc
  ·change List.lookup t ((s.N,_) :: List.filter _ _)=some ob at ht
   by_cases e1:t=s.N
   ·subst e1
    rw [zB] at ht
    cases ht
    refine ⟨Nat.lt_succ_self _,v',lN,flat++news,by rw [List.length_append];exact hown',fun r hr'=>(List.mem_append.1 hr').elim (hrn r) (hyn r),?_,fun v hv=>(List.mem_append.1 hv).elim (hone v) (hone2 v)⟩
    have:=z1D hown.1 hfl hpr
    exact fun k r j x h1 h2=>let ⟨v,h3,h4⟩:=this k r j x h1 h2;⟨v,h3,h4.mono hk hD⟩
   ·rw [zo e1,z0a] at ht
    split at ht
    ·cases ht
    ·rename_i e2
     obtain ⟨h5,z,h6,h7⟩:=hr.hp.at' t ob ht
     refine ⟨Nat.lt_succ_of_lt h5,z,by rw [lS t e1 e2];exact h6,h7.mono (Nat.le_succ _) hk hD hlc (fun b hb=>hg.block b (h7.z0n hb) (fun e'=>?_))⟩
     exact e2 (hr.hp.apart t tag z u b h6 hu hb (z0u e'.symm))
  ·change List.lookup t ((s.N,_) :: List.filter _ _)=none at ht
   by_cases e1:t=s.N
   ·subst e1;rw [zB] at ht;cases ht
   ·rw [zo e1,z0a] at ht
    by_cases e2:t=tag
    ·simp [loc2,e2];intro e3;omega
    ·rw [if_neg e2] at ht
     rw [lS t e1 e2];exact hr.hp.dead t ht
  ·have new : ∀ k z,k ≠ s.N→k ≠ tag→loc k=some z→ql z=some b→ql v' = some b→False:=fun k z h3 h4 h5 h6 h7=>by
    rcases hblk b h7 with e5|e5
    ·exact h4 (hr.hp.apart k tag z u b h5 hu h6 e5)
    ·obtain ⟨o',_,ho'⟩:=hr.hp.z1k h5
     have:=ho'.z0n h6
     omega
   rcases lO t z e1 with ⟨a1,rfl⟩|⟨a1,a2,a3⟩
   ·rcases lO t' z' e2 with ⟨b1,_⟩|⟨b1,b2,b3⟩
    ·rw [a1,b1]
    ·exact (new t' z' b1 b2 b3 e4 e3).elim
   ·rcases lO t' z' e2 with ⟨b1,rfl⟩|⟨b1,b2,b3⟩
    ·exact (new t z a1 a2 a3 e3 e4).elim
    ·exact hr.hp.apart t t' z z' b a3 b3 e3 e4
  ·rcases lO t z e1 with ⟨a1,rfl⟩|⟨a1,a2,a3⟩
   ·rcases hblk b e2 with e5|e5
    ·exact hr.hp.notL tag u b hu e5 hL
    ·have:=hr.hp.inL b hL;omega
   ·exact hr.hp.notL t z b a3 e2 hL
  ·rw [lN] at hz;cases hz;rfl
 ·rcases hb with hb|⟨k,z,h3,h4⟩
  ·exact hb.elim
  ·rcases lO k z h3 with ⟨_,rfl⟩|⟨_,_,h5⟩
   ·exact (hblk b h4).imp (fun h => .inr ⟨tag,u,hu,h⟩) (fun h=>by omega)
   ·exact .inl (.inr ⟨k,z,h5,h4⟩)
end
end Go.Proofs.YtbkkginjfnjffaaGreatDoor
