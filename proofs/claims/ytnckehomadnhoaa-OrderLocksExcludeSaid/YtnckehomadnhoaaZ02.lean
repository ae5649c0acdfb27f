/- Texts Ah, Al, Am, An, Ar, As, Ai. -/
import Derived.RangeFuncLeaves
import Derived.Maps.RangeRun
import Derived.Carry
import Derived.Test.YtnckehomadnhoaaZ01
namespace Go.Proofs.Ytnckehomadnhoaa
open Go.RowKit Go.Sort
set_option linter.unusedVariables false
def AVle (x y:AV):Prop := ∀ N D loc w v,AR N D loc w x v→AR N D loc w y v
theorem AVle.refl (x:AV):AVle x x:=fun _ _ _ _ _ h=>h
theorem AVle.junk (x:AV):AVle x .junk:=fun _ _ _ _ v _ => .junk v
theorem AVle.nil (n:Nat):AVle (.p (.val (.slice none 0 0))) (.p (.seq n [])):=fun _ _ _ _ _ h=>by
  rw [h.val];exact .p _ _ (.nil n none 0 fun _=>rfl)
noncomputable def AO.okB (n:Nat):AO→Bool
  | .boxP _ _ cs=>cs.all (·.okB n)
  | .arow _ cs=>cs.all (·.okB n)
  | .lrec _ _ fr=>fr.all fun p=>p.2.okB n
  | .row _ _ _=>true
  | .map _ _ _ _ _=>true
  | .raw _ _=>true
  | .amap _ _ _ f _=>open Classical in decide (∀ l x,f l=some x→x.okB n=true)
noncomputable def ASt.okB (s:ASt):Bool:=s.fr.all (fun p=>p.2.okB s.N) && s.hp.all (fun p=>decide (p.1 < s.N) && p.2.okB s.N)
theorem mem_of_lookup {α:Type} {l:List (Nat × α)} {t:Nat} {x : α} (h:l.lookup t=some x):(t,x) ∈ l:=by
  induction l with
  | nil=>cases h
  | cons p r ih =>
    obtain ⟨j,y⟩:=p
    by_cases e:t=j
    · subst e;rw [lookup_cons_eq] at h;cases h;exact List.mem_cons.2 (.inl rfl)
    · rw [lookup_cons_ne e] at h;exact List.mem_cons.2 (.inr (ih h))
theorem OR.low {N n:Nat} {D:Nat→Prop} {loc:Nat→Option Value} {w:World} {u:Value} {o:AO} (h:OR N D loc w u o) (hx:o.okB n=true):OR n D loc w u o:=by
  cases o with
  | map b P k n f=>exact h
  | amap P k m f q =>
    obtain ⟨b,DD,g,rfl,h1,h3,h4,h5⟩:=h
    simp only [AO.okB,decide_eq_true_eq] at hx
    exact ⟨b,DD,g,rfl,h1,h3,fun kl=>⟨fun x hf=>let ⟨v,k1,k2⟩:=(h4 kl).1 x hf;⟨v,k1,k2.low (hx kl x hf)⟩,(h4 kl).2⟩,h5⟩
  | arow e cs =>
    obtain ⟨flat,h1,h3,h4⟩:=h
    exact ⟨flat,h1,fun j x hj=>let ⟨v,k1,k2⟩:=h3 j x hj;⟨v,k1,k2.low (List.all_eq_true.1 hx x (List.mem_of_getElem? hj))⟩,h4⟩
  | raw v ob=>exact h
  | lrec l sp fr =>
    obtain ⟨rfl,tmps,h1,h2,h3⟩:=h
    refine ⟨rfl,tmps,h1,h2,fun t=>?_⟩
    have h4:=h3 t
    cases hf:fr.lookup t with
    | none=>exact .junk _
    | some x=>rw [hf] at h4;exact h4.low (List.all_eq_true.1 hx _ (mem_of_lookup hf))
  | boxP pin ty cs =>
    obtain ⟨b,arr,rfl,h1,h2,h3,h4⟩:=h
    exact ⟨b,arr,rfl,h1,h2,fun j x hj=>(h3 j x hj).low (List.all_eq_true.1 hx x (List.mem_of_getElem? hj)),h4⟩
  | row e n rows=>exact h
theorem Weak.of {s s' : ASt} (hn:s'.n=s.n) (hfr : ∀ p ∈ s'.fr,AVle (s.get p.1) p.2) (hhp : ∀ p ∈ s'.hp,s.hp.lookup p.1=some p.2) (hok:s'.okB=true):Weak s s':=fun L loc a w hr=>by
  simp only [ASt.okB,Bool.and_eq_true,List.all_eq_true,decide_eq_true_eq] at hok
  obtain ⟨ok1,ok2⟩:=hok
  let loc' : Nat→Option Value:=fun t=>if (s'.hp.lookup t).isSome then loc t else none
  have hl : ∀ t u,loc' t=some u→loc t=some u:=fun t u h=>by
    simp only [loc'] at h
    split at h
    · exact h
    · cases h
  have hD : ∀ k,Dm L loc' k→Dm L loc k:=fun k hk=>hk.imp id fun ⟨t,u,h1,h2⟩=>⟨t,u,hl t u h1,h2⟩
  refine ⟨loc',⟨hr.defers,hr.size.trans hn.symm,fun t _=>?_,⟨fun t o ht=>?_,fun t ht=>?_,fun t t' u u' b h1 h2=>hr.hp.apart t t' u u' b (hl _ _ h1) (hl _ _ h2),hr.hp.inL,fun t u b h1=>hr.hp.notL t u b (hl _ _ h1)⟩⟩,⟨Kp.refl _ _,fun b hb => .inl (hb.imp id fun ⟨t,u,h1,h2⟩=>⟨t,u,hl t u h1,h2⟩)⟩⟩
  · unfold ASt.get
    cases ht:s'.fr.lookup t with
    | none=>exact .junk _
    | some x =>
      have hm:=mem_of_lookup ht
      have h1:=hfr _ hm _ _ _ _ _ (hr.fr t trivial)
      exact (h1.low (ok1 _ hm)).mono (Nat.le_refl _) (Kp.refl _ _) (fun k _ h=>hD k h) (fun t u _ h=>hl t u h)
  · have hm:=mem_of_lookup ht
    have h1:=hhp _ hm
    obtain ⟨_,u,h3,h4⟩:=hr.hp.at' t o h1
    have h5:=ok2 _ hm
    refine ⟨h5.1,u,by simp [loc',ht,h3],(h4.low h5.2).mono (Nat.le_refl _) (Kp.refl _ _) (fun k _ h=>hD k h) (fun t u _ h=>hl t u h) (fun _ _=>rfl)⟩
  · simp [loc',ht]
def ASt.frz (s:ASt) (t:Nat):ASt:=match s.hp.lookup t with
  | some (.row _ n rows) => { s.subst t (.p (.seq n rows)) with hp:=(s.subst t (.p (.seq n rows))).hp.filter fun p=>p.1 != t }
  | _=>s
theorem lookup_filter {α:Type} (l:List (Nat × α)) (t k:Nat):(l.filter fun p=>p.1 != t).lookup k=if k=t then none else l.lookup k:=by
  induction l with
  | nil=>simp
  | cons p r ih =>
    obtain ⟨j,x⟩:=p
    by_cases e:j=t
    · subst e
      rw [List.filter_cons,if_neg (by simp),ih]
      by_cases ek:k=j
      · rw [if_pos ek,if_pos ek]
      · rw [if_neg ek,if_neg ek,lookup_cons_ne ek]
    · rw [List.filter_cons,if_pos (by simpa using e)]
      by_cases ek:k=j
      · subst ek;rw [lookup_cons_eq,lookup_cons_eq,if_neg e]
      · rw [lookup_cons_ne ek,lookup_cons_ne ek,ih]
theorem Weak.frz (s:ASt) (t:Nat):Weak s (s.frz t):=by
  unfold ASt.frz
  split
  · rename_i e n rows hlk
    intro L loc a w hr
    obtain ⟨htN,u,hu,hor⟩:=hr.hp.at' t _ hlk
    let loc' : Nat→Option Value:=fun k=>if k=t then none else loc k
    have hl : ∀ k u,loc' k=some u→k ≠ t∧loc k=some u:=fun k u h=>by
      simp only [loc'] at h
      split at h
      · cases h
      · rename_i e;exact ⟨e,h⟩
    have hD : ∀ k,Dm L loc' k→Dm L loc k:=fun k hk=>hk.imp id fun ⟨t,u,h1,h2⟩=>⟨t,u,(hl t u h1).2,h2⟩
    have hnb : ∀ b,blkOf u=some b → ¬ Dm L loc' b:=fun b hb hd=>hd.elim (fun h=>hr.hp.notL t u b hu hb h) (fun ⟨t',u',h1,h2⟩=>(hl t' u' h1).1 (hr.hp.apart t' t u' u b (hl t' u' h1).2 hu h2 hb))
    have hpr:PR (Dm L loc') w (.seq n rows) u:=hor.seq hD hnb
    have hy : ∀ v,v.oneCell' = true→(∀ z,loc t=some z→v=z)→AR s.N (Dm L loc') loc' w (.p (.seq n rows)) v:=fun v _ hv=>by rw [hv u hu];exact .p _ _ hpr
    refine ⟨loc',⟨hr.defers,hr.size,fun k _=>?_,⟨fun k o ht=>?_,fun k ht=>?_,fun k k' z z' b h1 h2=>hr.hp.apart k k' z z' b (hl _ _ h1).2 (hl _ _ h2).2,hr.hp.inL,fun k z b h1=>hr.hp.notL k z b (hl _ _ h1).2⟩⟩,⟨Kp.refl _ _,fun b hb => .inl (hb.imp id fun ⟨t,u,h1,h2⟩=>⟨t,u,(hl t u h1).2,h2⟩)⟩⟩
    · show AR _ _ _ _ ((s.subst t _).get k) _
      rw [ASt.get_subst]
      exact (hr.fr k trivial).sub (Nat.le_refl _) (Kp.refl _ _) (fun k _ h=>hD k h) (fun k z _ hne h=>(hl k z h).2) hy
    · change List.lookup k (List.filter _ _)=some o at ht
      rw [lookup_filter] at ht
      split at ht
      · cases ht
      · rename_i hne
        simp only [ASt.subst,lookup_map,Option.map_eq_some_iff] at ht
        obtain ⟨ob,h1,rfl⟩:=ht
        obtain ⟨h2,z,h3,h4⟩:=hr.hp.at' k ob h1
        exact ⟨h2,z,by simp [loc',hne,h3],h4.sub (Nat.le_refl _) (Kp.refl _ _) (fun k _ h=>hD k h) (fun k z _ hne h=>(hl k z h).2) hy (fun _ _=>rfl)⟩
    · change List.lookup k (List.filter _ _)=none at ht
      rw [lookup_filter] at ht
      split at ht
      · rename_i e;simp [loc',e]
      · rename_i hne
        simp only [ASt.subst,lookup_map,Option.map_eq_none_iff] at ht
        simp [loc',hne,hr.hp.dead k ht]
  · exact Weak.refl s
theorem Weak.newrow (s:ASt) (t e n:Nat) (ht:t < s.n) (h:s.get t = .p (.val (.slice none 0 0))):Weak s ((s.add (.row e n [])).put (some t) (.own s.N)):=fun L loc a w hr=>by
  have hs:slot a t = .slice none 0 0:=by have:=hr.fr t trivial;rw [h] at this;exact this.val
  have hb:=Blw.refl w.heap.size w
  have h1:=hr.add hb (.slice none 0 0) (.row e n []) (fun b e=>by cases e) ⟨[],World.ownsRow_nil _ _ _ _,fun r hr=>(by cases hr),fun k r j x h=>(by simp at h),fun v hv=>(by cases hv)⟩
  refine ⟨setLoc loc s.N (.slice none 0 0),?_,.add hb _ _ (fun b e=>by cases e)⟩
  have h2:=h1.put (d:=t) ht (x := .own s.N) (v := .slice none 0 0) (.own s.N _ (Nat.lt_succ_self _) rfl fun u hu=>by rw [setLoc_same] at hu;cases hu;rfl)
  have e:a.put (some t) (.slice none 0 0)=a:=by
    refine act_ext (by rw [size_put]) rfl fun k=>?_
    rw [slot_put a t k _ (by rw [hr.size];exact ht)]
    split
    · rename_i hk;rw [hk,hs]
    · rfl
  rw [e] at h2
  exact ⟨h2.defers,h2.size,fun k _=>h2.fr k (.inr trivial),h2.hp⟩
def frOf:Nat→List AV→List (Nat × AV)
  | _,[] => []
  | k,x :: r=>(k,x) :: frOf (k + 1) r
def startSt (xs:List AV) (n:Nat):ASt:=⟨frOf 0 xs,[],n,0⟩
theorem frOf_lookup : ∀ (xs:List AV) (k t:Nat),(frOf k xs).lookup t=if k≤t then xs[t - k]? else none
  | [],k,t=>by simp [frOf]
  | x :: r,k,t=>by
    rw [frOf]
    by_cases e:t=k
    · subst e;rw [lookup_cons_eq,if_pos (Nat.le_refl _)];simp
    · rw [lookup_cons_ne e,frOf_lookup r (k + 1) t]
      by_cases h:k + 1≤t
      · rw [if_pos h,if_pos (by omega),show t - k=(t - (k + 1)) + 1 by omega];rfl
      · rw [if_neg h,if_neg (by omega)]
def ares1 (P:Program) (s:ASt):ResultVar→Option AV
  | .tmp t=>some (s.get t)
  | .cell t ty=>match s.get t with
    | .ptr tag off=>aload P s ty (.ptr tag off)
    | _=>none
def aresL (P:Program) (s:ASt):List ResultVar→Option (List AV)
  | []=>some []
  | r :: rs=>match ares1 P s r,aresL P s rs with
    | some x,some xs=>some (x :: xs)
    | _,_=>none
def ares (P:Program) (s:ASt) (rs:List ResultVar):Option AV:=match aresL P s rs with
  | some [x]=>some x
  | some xs=>some (.tup xs)
  | none=>none
theorem load_ptr {P:Program} {X:Nat→Prop} {L:Lim} {s:ASt} {loc:Nat→Option Value} {a:Act} {w:World} (hr:Rel X L s loc a w) {tag off ty:Nat} {av:AV} {v:Value} (hv:AR s.N (Dm L loc) loc w (.ptr tag off) v) (h:aload P s ty (.ptr tag off)=some av) :
    ∃ b u,v = .pointer (some ⟨b,off,none⟩)∧(loadVar ty ⟨b,off,none⟩).run P w = .ok u w∧AR s.N (Dm L loc) loc w av u:=by
  simp only [aload] at h
  cases hlk:s.hp.lookup tag with
  | none=>rw [hlk] at h;cases h
  | some ob =>
    rw [hlk] at h
    obtain ⟨_,u',hu',hor⟩:=hr.hp.at' tag ob hlk
    cases ob with
    | map _ _ _ _ _=>cases h
    | raw _ _=>cases h
    | lrec _ _ _=>cases h
    | amap _ _ _ _ _=>cases h
    | arow _ _=>cases h
    | row e n rows=>cases h
    | boxP pin ty' cs =>
      obtain ⟨b,arr,rfl,hh,hsz,hcs,h1c,_⟩:=hor
      cases hv with
      | ptr _ _ _ _ _ hv =>
      obtain rfl:=hv b hu'
      obtain ⟨u,h2,h3⟩:=load_cells (P:=P) (N:=s.N) (D:=Dm L loc) (loc:=loc) (b:=b) (o := 0) (cs:=cs) (fun j=>arr.getD j undef) (fun j y hy=>by
        obtain ⟨hlt,_⟩:=List.getElem?_eq_some_iff.1 hy
        refine ⟨?_,hcs j y hy,h1c j (by omega)⟩
        rw [row_cells hh,Array.getD_eq_getD_getElem?,Nat.zero_add,Array.getElem?_eq_getElem (by omega)];rfl) h
      rw [Nat.zero_add] at h2
      exact ⟨b,u,rfl,by simpa [Instr.loadAt,Instr.sureAddr] using h2,h3⟩
def res1 (tmps:Array Value):ResultVar→Sem Value
  | .tmp t=>pure (tmps.getD t undef)
  | .cell t ty=>do loadVar ty (← asAddr (tmps.getD t undef))
theorem run_results {fn:Func} {rs:List ResultVar} (h:fn.results=rs.toArray) (tmps:Array Value) (P:Program) (w:World):(results fn tmps).run P w=((rs.mapM (res1 tmps)).run P w).andThen fun vs w' => .ok (match vs with | [v]=>v|vs => .tuple vs.toArray) w':=by
  have e:results fn tmps=(do let vs ← fn.results.mapM (res1 tmps);pure (if h:vs.size=1 then vs[0] else .tuple vs)):=by
    unfold results
    congr 1
  rw [e,h,List.mapM_toArray]
  simp only [bind_map_left,Sem.run_bind]
  congr 1
  funext vs w'
  match vs with
  | []=>simp
  | [v]=>simp
  | a :: b :: r=>simp
theorem run_res1 {P:Program} {L:Lim} {s:ASt} {loc:Nat→Option Value} {a:Act} {w:World} (hr:Rel All L s loc a w) {r:ResultVar} {x:AV} (h:ares1 P s r=some x) :
    ∃ v,(res1 a.tmps r).run P w = .ok v w∧AR s.N (Dm L loc) loc w x v:=by
  cases r with
  | tmp t=>cases h;exact ⟨slot a t,by simp [slot,res1],hr.fr t trivial⟩
  | cell t ty =>
    simp only [ares1] at h
    split at h
    · rename_i tag off he
      have h1:=hr.fr t trivial
      rw [he] at h1
      obtain ⟨b,u,h2,h3,h4⟩:=load_ptr hr h1 h
      refine ⟨u,?_,h4⟩
      unfold slot at h2
      simp only [res1,h2,asAddr,Sem.run_bind,Sem.run_pure,Result.andThen_ok,h3]
    · cases h
theorem run_ares {P:Program} {L:Lim} {s:ASt} {loc:Nat→Option Value} {a:Act} {w:World} (hr:Rel All L s loc a w) (fn:Func) {x:AV} (h:ares P s fn.results.toList=some x) (h3:fn.results.size ≤ 3) : ∃ v,(results fn a.tmps).run P w = .ok v w∧AR s.N (Dm L loc) loc w x v:=by
  obtain ⟨rs,hrs⟩ : ∃ rs,fn.results=List.toArray rs:=⟨fn.results.toList,by simp⟩
  rw [hrs] at h h3
  simp only [List.size_toArray] at h3
  unfold ares at h
  rw [run_results hrs]
  rcases rs with _|⟨r1,_|⟨r2,_|⟨r3,_|⟨r4,rs⟩⟩⟩⟩
  · simp only [aresL,Option.some.injEq] at h
    subst h
    exact ⟨.tuple #[],by simp,.tup [] #[] rfl (fun j x hx=>by simp at hx)⟩
  · simp only [aresL] at h
    cases h1:ares1 P s r1 with
    | none=>simp [h1] at h
    | some y =>
      simp only [h1,Option.some.injEq] at h
      subst h
      obtain ⟨v,h2,h4⟩:=run_res1 hr h1
      exact ⟨v,by simp [h2],h4⟩
  · simp only [aresL] at h
    cases h1:ares1 P s r1 with
    | none=>simp [h1] at h
    | some y1 =>
      cases h2:ares1 P s r2 with
      | none=>simp [h1,h2] at h
      | some y2 =>
        simp only [h1,h2,Option.some.injEq] at h
        subst h
        obtain ⟨v1,h4,h5⟩:=run_res1 hr h1
        obtain ⟨v2,h6,h7⟩:=run_res1 hr h2
        refine ⟨.tuple #[v1,v2],by simp [h4,h6],.tup _ _ rfl fun j x hx=>?_⟩
        match j,hx with
        | 0,hx=>cases hx;exact h5
        | 1,hx=>cases hx;exact h7
  · simp only [aresL] at h
    cases h1:ares1 P s r1 with
    | none=>simp [h1] at h
    | some y1 =>
      cases h2:ares1 P s r2 with
      | none=>simp [h1,h2] at h
      | some y2 =>
        cases h3:ares1 P s r3 with
        | none=>simp [h1,h2,h3] at h
        | some y3 =>
          simp only [h1,h2,h3,Option.some.injEq] at h
          subst h
          obtain ⟨v1,h4,h5⟩:=run_res1 hr h1
          obtain ⟨v2,h6,h7⟩:=run_res1 hr h2
          obtain ⟨v3,h8,h9⟩:=run_res1 hr h3
          refine ⟨.tuple #[v1,v2,v3],by simp [h4,h6,h8],.tup _ _ rfl fun j x hx=>?_⟩
          match j,hx with
          | 0,hx=>cases hx;exact h5
          | 1,hx=>cases hx;exact h7
          | 2,hx=>cases hx;exact h9
  · simp at h3
def shutM:List Nat→World→World
  | [],w=>w
  | D :: r,w=>shutM r (w.putObj D (.deferred none))
theorem kp_putObj {D:Nat} (w:World) (ob:Obj):Kp (fun k=>k=D) w (w.putObj D ob):=⟨rfl,rfl,rfl,by simp,fun k _ hk=>World.putObj_heap_other hk,Nat.le_refl _⟩
theorem Kp.wide {D D' : Nat→Prop} {w w' : World} (h:Kp D w w') (hD : ∀ k,D k→D' k):Kp D' w w':=⟨h.os,h.tape,h.output,h.size,fun k hk hn=>h.block k hk fun e=>hn (hD k e),h.drawn⟩
theorem HRel.shut1 {L:Nat→Prop} {N:Nat} {hp:Hp} {loc:Nat→Option Value} {w w' : World} {D:Nat} (h:HRel L N hp loc w) (hD:L D) (hk:Kp (fun k=>k=D) w w'):HRel L N hp loc w' :=
  ⟨fun t o ho=>by
    obtain ⟨h1,u,h2,h3⟩:=h.at' t o ho
    exact ⟨h1,u,h2,h3.mono (Nat.le_refl _) (hk.wide (D':=Dm L loc) fun k e => .inl (e ▸ hD)) (fun _ _ h=>h) (fun _ _ _ h=>h) (fun b hb=>hk.block b (h3.blk_lt hb) fun e=>h.notL t u b h2 hb (e ▸ hD))⟩,
  h.dead,h.apart,fun b hL=>Nat.lt_of_lt_of_le (h.inL b hL) hk.size,h.notL⟩
theorem Rel.shut1 {X:Nat→Prop} {L:Lim} {s:ASt} {loc:Nat→Option Value} {a:Act} {w w' : World} {D:Nat} (h:Rel X L s loc a w) (hD:L D) (hk:Kp (fun k=>k=D) w w'):Rel X L s loc a w' :=
  ⟨h.defers,h.size,fun t ht=>(h.fr t ht).mono (Nat.le_refl _) (hk.wide fun k e => .inl (e ▸ hD)) (fun _ _ h=>h) (fun _ _ _ h=>h),h.hp.shut1 hD hk⟩
theorem Rel.shut {X:Nat→Prop} {L:Lim} {s:ASt} {loc:Nat→Option Value} {a:Act} : ∀ (new:List Nat) {w:World},Rel X L s loc a w→(∀ D ∈ new,L D)→Rel X L s loc a (shutM new w)
  | [],_,h,_=>h
  | D :: r,_,h,hD=>Rel.shut r (h.shut1 (hD D (List.mem_cons.2 (.inl rfl))) (kp_putObj _ _)) fun x hx=>hD x (List.mem_cons.2 (.inr hx))
theorem shutM_kp : ∀ (new:List Nat) (w:World),Kp (fun k=>k ∈ new) w (shutM new w)
  | [],w=>Kp.refl _ _
  | D :: r,w=>((kp_putObj (D:=D) w (.deferred none)).wide fun _ e=>by rw [e];exact List.mem_cons.2 (.inl rfl)).trans (shutM_kp r _) fun x hx => .inl (List.mem_cons.2 (.inr hx))
theorem leaves_marks {P:Program} {fn:Func} {tmps:Array Value} {R:Ending→World→Prop} : ∀ (new:List Nat) (w:World),new.Nodup→(∀ D ∈ new,w.heap[D]? = some (.deferred (some []))) →
    (∃ v,(results fn tmps).run P (shutM new w) = .ok v (shutM new w)∧R (.returned v) (shutM new w))→LeavesInM Fence.wide 0 P fn tmps R (new.map mark) .returning w
  | [],w,_,_,h=>h
  | D :: r,w,hn,hD,h=>by
    obtain ⟨h1,h2⟩:=List.nodup_cons.1 hn
    refine ⟨by simp,.inl ⟨D,w.putObj D (.deferred none),rfl,run_takeDeferred (hD D (List.mem_cons.2 (.inl rfl))),leaves_marks r _ h2 (fun x hx=>?_) h⟩⟩
    rw [World.putObj_heap_other (k:=x) (r:=D) (fun e=>h1 (by rw [← e];exact hx))]
    exact hD x (List.mem_cons.2 (.inr hx))
def FinA (P:Program) (fn:Func) (r:AV) (e:Exit) (s:ASt):Prop:=(e = .normal∨e = .ret) ∧ ∃ s',Weak s s' ∧ ares P s' fn.results.toList=some r
theorem PureC.of {P:Program} {f:FuncId} {fn:Func} {c:Code} {xs:List AV} {r:AV} (hf:P.funcs[f]? = some fn) (hb:fn.body=some c) (n:Nat) (hn:xs.length + (fn.ntmps - xs.length)=n) (h3:fn.results.size ≤ 3) (hr:r.okB 0=true) (h:T Fence.wide P c (FinA P fn r) (startSt xs n)):PureC P f xs r:=fun L w vs hL hvs=>by
  have hst:Rel All ⟨L,[]⟩ (startSt xs n) noLoc { tmps:=vs.toArray ++ Array.replicate (fn.ntmps - vs.toArray.size) undef,defers := [] } w:=by
    refine ⟨rfl,by simp [startSt,hvs.1];omega,fun t _=>?_,⟨fun t o ht=>(by simp [startSt] at ht),fun _ _=>rfl,fun t t' u u' b h1=>(by cases h1),hL,fun t u b h1=>(by cases h1)⟩⟩
    unfold ASt.get startSt
    rw [frOf_lookup,if_pos (Nat.zero_le _),Nat.sub_zero]
    cases hx:xs[t]? with
    | none=>exact .junk _
    | some x =>
      have hlt:=(List.getElem?_eq_some_iff.1 hx).1
      have hv:vs[t]? = some (vs[t]'(by rw [hvs.1];exact hlt)):=List.getElem?_eq_getElem _
      have h1:=hvs.2 t x _ hx hv
      have e:slot { tmps:=vs.toArray ++ Array.replicate (fn.ntmps - vs.toArray.size) undef,defers := [] } t=vs[t]'(by rw [hvs.1];exact hlt):=by
        unfold slot
        rw [Array.getD_eq_getD_getElem?,Array.getElem?_append,if_pos (by simp [hvs.1,hlt])]
        simp [hv]
      rw [e]
      exact h1.mono (Nat.le_refl _) (Kp.refl _ _) (fun k _ hk=>hk.elim id (fun ⟨_,_,h,_⟩=>by cases h)) (fun _ _ h=>absurd h (Nat.not_lt_zero _))
  refine callsIn_wide.1 (callsIn_of_wp_marks (n := 0) hf hb trivial (wpIn_mono (h ⟨L,[]⟩ noLoc _ w hst) fun e a' w' ⟨s',loc',⟨he,s2,hw,hares⟩,⟨L1,hrel,hlx⟩,hx⟩=>?_))
  obtain ⟨new,e1,hnd,hnew⟩:=hlx.ds
  rw [List.append_nil] at e1
  obtain ⟨l2,hrel2,hx2⟩:=hw L1 loc' a' w' hrel
  obtain ⟨v,hrun,hav⟩:=run_ares (hrel2.shut new fun D hD=>(hnew D hD).2.1) fn hares h3
  have hbel:Blw w.heap.size w (shutM new w'):=by
    have k1:Kp (fun k=>Dm (fun _=>False) noLoc k∨k ∈ new) w (shutM new w'):=(hx.kp.wide fun k h => .inl h).trans ((shutM_kp new w').wide fun k h => .inr h) fun x hx' => .inl hx'
    exact ⟨⟨k1.os,k1.tape,k1.output,k1.size,fun k hk=>k1.block k hk fun hd=>hd.elim (fun hd=>hd.elim id fun ⟨_,_,h,_⟩=>by cases h) (fun hd=>by have:=(hnew k hd).1;omega)⟩,k1.drawn⟩
  have hleave:LeavesInM Fence.wide 0 P fn a'.tmps (fun e w' => ∃ v',e = .returned v' ∧ Blw w.heap.size w w' ∧ AR 0 L noLoc w' r v') a'.defers .returning w':=by
    rw [hrel.defers,e1]
    exact leaves_marks new w' hnd (fun D hD=>(hnew D hD).2.2) ⟨v,hrun,v,rfl,hbel,hav.bare hr (fun b hb => .inl (hlx.sub b hb))⟩
  rcases he with rfl|rfl
  · exact hleave
  · exact hleave
def FinF (P:Program) (fn:Func) (n:Nat) (rows:List (List PV)) (e:Exit) (s:ASt):Prop:=(e = .normal∨e = .ret) ∧ ∃ s',Weak s s' ∧ ∃ t e0,ares P s' fn.results.toList=some (.own t)∧s'.hp.lookup t=some (.row e0 n rows) ∧ ∀ r ∈ rows,∀ x ∈ r,∃ v,x = .val v
theorem FinF.ret {P:Program} {fn:Func} {n:Nat} {rows:List (List PV)} {s s' : ASt} {e:Exit} (t e0:Nat) (he:e = .normal∨e = .ret) {rs:Array ResultVar} (hrs:fn.results=rs) (hw:Weak s s') (h:ares P s' rs.toList=some (.own t)) (hlk:s'.hp.lookup t=some (.row e0 n rows)) (hsc : ∀ r ∈ rows,∀ x ∈ r,∃ v,x = .val v):FinF P fn n rows e s:=⟨he,s',hw,t,e0,by rw [hrs];exact h,hlk,hsc⟩
theorem PureF.of {P:Program} {f:FuncId} {fn:Func} {c:Code} {xs:List AV} {n0:Nat} {rows:List (List PV)} (hf:P.funcs[f]? = some fn) (hb:fn.body=some c) (n:Nat) (hn:xs.length + (fn.ntmps - xs.length)=n) (h3:fn.results.size ≤ 3) (h:T Fence.wide P c (FinF P fn n0 rows) (startSt xs n)):PureF P f xs (.seq n0 rows):=fun L w vs hL hvs=>by
  have hst:Rel All ⟨L,[]⟩ (startSt xs n) noLoc { tmps:=vs.toArray ++ Array.replicate (fn.ntmps - vs.toArray.size) undef,defers := [] } w:=by
    refine ⟨rfl,by simp [startSt,hvs.1];omega,fun t _=>?_,⟨fun t o ht=>(by simp [startSt] at ht),fun _ _=>rfl,fun t t' u u' b h1=>(by cases h1),hL,fun t u b h1=>(by cases h1)⟩⟩
    unfold ASt.get startSt
    rw [frOf_lookup,if_pos (Nat.zero_le _),Nat.sub_zero]
    cases hx:xs[t]? with
    | none=>exact .junk _
    | some x =>
      have hlt:=(List.getElem?_eq_some_iff.1 hx).1
      have hv:vs[t]? = some (vs[t]'(by rw [hvs.1];exact hlt)):=List.getElem?_eq_getElem _
      have h1:=hvs.2 t x _ hx hv
      have e:slot { tmps:=vs.toArray ++ Array.replicate (fn.ntmps - vs.toArray.size) undef,defers := [] } t=vs[t]'(by rw [hvs.1];exact hlt):=by
        unfold slot
        rw [Array.getD_eq_getD_getElem?,Array.getElem?_append,if_pos (by simp [hvs.1,hlt])]
        simp [hv]
      rw [e]
      exact h1.mono (Nat.le_refl _) (Kp.refl _ _) (fun k _ hk=>hk.elim id (fun ⟨_,_,h,_⟩=>by cases h)) (fun _ _ h=>absurd h (Nat.not_lt_zero _))
  refine callsIn_wide.1 (callsIn_of_wp_marks (n := 0) hf hb trivial (wpIn_mono (h ⟨L,[]⟩ noLoc _ w hst) fun e a' w' ⟨s',loc',⟨he,s2,hw,t,e0,hares,hlk,hsc⟩,⟨L1,hrel,hlx⟩,hx⟩=>?_))
  obtain ⟨new,e1,hnd,hnew⟩:=hlx.ds
  rw [List.append_nil] at e1
  obtain ⟨l2,hrel2,hx2⟩:=hw L1 loc' a' w' hrel
  obtain ⟨v,hrun,hav⟩:=run_ares (hrel2.shut new fun D hD=>(hnew D hD).2.1) fn hares h3
  have hbel:Blw w.heap.size w (shutM new w'):=by
    have k1:Kp (fun k=>Dm (fun _=>False) noLoc k∨k ∈ new) w (shutM new w'):=(hx.kp.wide fun k h => .inl h).trans ((shutM_kp new w').wide fun k h => .inr h) fun x hx' => .inl hx'
    exact ⟨⟨k1.os,k1.tape,k1.output,k1.size,fun k hk=>k1.block k hk fun hd=>hd.elim (fun hd=>hd.elim id fun ⟨_,_,h,_⟩=>by cases h) (fun hd=>by have:=(hnew k hd).1;omega)⟩,k1.drawn⟩
  have hrel3:=hrel2.shut new fun D hD=>(hnew D hD).2.1
  obtain ⟨_,u,hu,hor⟩:=hrel3.hp.at' t _ hlk
  obtain rfl:v=u:=by cases hav with|own _ _ _ _ h=>exact h u hu
  have hfr : ∀ b,blkOf v=some b → ¬ b < w.heap.size:=fun b hb hlt=>by
    rcases hx2.fresh b (.inr ⟨t,v,hu,hb⟩) with h1|h1
    · rcases hx.fresh b h1 with h2|h2
      · exact h2.elim id fun ⟨_,_,h,_⟩=>by cases h
      · omega
    · have:=hx.kp.size;omega
  have hpr:PR (fun b=>b < w.heap.size) (shutM new w') (.seq n0 rows) v:=by
    obtain ⟨flat,hown,hn0,hf0,h10⟩:=hor
    have hor' : OR s2.N (fun b=>b < w.heap.size) l2 (shutM new w') v (.row e0 n0 rows):=⟨flat,hown,hn0,fun k r j x hk hx'=>by
      obtain ⟨z,g1,g2⟩:=hf0 k r j x hk hx'
      obtain ⟨y,rfl⟩:=hsc r (List.mem_of_getElem? hk) x (List.mem_of_getElem? hx')
      exact ⟨z,g1,by cases g2 with|val _ h=>exact .val _ h⟩,h10⟩
    exact hor'.seq (fun b hb=>hb) hfr
  have hleave:LeavesInM Fence.wide 0 P fn a'.tmps (fun e w' => ∃ v',e = .returned v' ∧ Blw w.heap.size w w' ∧ PR (fun b=>b < w.heap.size) w' (.seq n0 rows) v') a'.defers .returning w':=by
    rw [hrel.defers,e1]
    exact leaves_marks new w' hnd (fun D hD=>(hnew D hD).2.2) ⟨v,hrun,v,rfl,hbel,hpr⟩
  rcases he with rfl|rfl
  · exact hleave
  · exact hleave
end Go.Proofs.Ytnckehomadnhoaa
namespace Go.Proofs.Ytnckehomadnhoaa
open Go.RowKit Go.Sort
def Cs (N:Nat) (D:Nat→Prop) (loc:Nat→Option Value) (w:World) (cs:List AV) (vs:Array Value):Prop:=vs.size=cs.length∧(∀ j x,cs[j]? = some x→AR N D loc w x (vs.getD j undef)) ∧ ∀ j,j < vs.size→(vs.getD j undef).oneCell' = true
def spliceA (cells:Array Value) (off:Nat) (vs:Array Value):Array Value:=vs.zipIdx.foldl (fun cs (c,j)=>cs.setIfInBounds (off + j) c) cells
theorem splice_fold (off:Nat) : ∀ (vs:List Value) (k:Nat) (cells:Array Value),off + k + vs.length≤cells.size →
    ((vs.zipIdx k).foldl (fun cs (p:Value × Nat)=>cs.setIfInBounds (off + p.2) p.1) cells).toList=asplice cells.toList (off + k) vs
  | [],k,cells,_=>by simp [asplice]
  | v :: r,k,cells,h=>by
    simp only [List.length_cons] at h
    rw [List.zipIdx_cons,List.foldl_cons,splice_fold off r (k + 1) _ (by simp;omega)]
    apply List.ext_getElem?
    intro j
    rw [asplice_get (by simp;omega),asplice_get (by simp;omega)]
    simp only [List.length_cons,Array.getElem?_toList,Array.getElem?_setIfInBounds]
    by_cases e1:off + (k + 1)≤j∧j < off + (k + 1) + r.length
    · rw [if_pos e1,if_pos (by omega)]
      rw [show j - (off + k)=(j - (off + (k + 1))) + 1 by omega];rfl
    · rw [if_neg e1]
      by_cases e2:off + k=j
      · subst e2
        rw [if_pos rfl,if_pos (by omega),if_pos (by omega)]
        simp
      · rw [if_neg e2,if_neg (by omega)]
theorem spliceA_list {cells vs:Array Value} {off:Nat} (h:off + vs.size≤cells.size):(spliceA cells off vs).toList=asplice cells.toList off vs.toList:=by
  unfold spliceA
  rw [← Array.foldl_toList,Array.toList_zipIdx]
  exact splice_fold off vs.toList 0 cells (by simpa using h)
theorem Cs.splice {N:Nat} {D:Nat→Prop} {loc:Nat→Option Value} {w:World} {cs xs:List AV} {us vs:Array Value} {off:Nat} (h:Cs N D loc w cs us) (k:Cs N D loc w xs vs) (hl:off + xs.length≤cs.length):Cs N D loc w (asplice cs off xs) (spliceA us off vs):=by
  have hle:off + vs.size≤us.size:=by rw [k.1,h.1];exact hl
  have hlen:(spliceA us off vs).size=us.size:=by
    have:=congrArg List.length (spliceA_list hle)
    rw [asplice_len (by simpa using hle)] at this
    simpa using this
  have hget : ∀ j,(spliceA us off vs).getD j undef=if off≤j∧j < off + xs.length then vs.getD (j - off) undef else us.getD j undef:=fun j=>by
    rw [Array.getD_eq_getD_getElem?,← Array.getElem?_toList,spliceA_list hle,asplice_get (by simpa using hle)]
    simp only [Array.length_toList,k.1]
    split <;> rw [Array.getElem?_toList,Array.getD_eq_getD_getElem?]
  refine ⟨by rw [hlen,h.1,asplice_len hl],fun j x hx=>?_,fun j hj=>?_⟩
  · rw [hget]
    rw [asplice_get hl] at hx
    split
    · rename_i hc;rw [if_pos hc] at hx;exact k.2.1 _ x hx
    · rename_i hc;rw [if_neg hc] at hx;exact h.2.1 _ x hx
  · rw [hget]
    split
    · exact k.2.2 _ (by rw [k.1];omega)
    · exact h.2.2 _ (by omega)
def afill (place:Nat→Option (Nat × Nat)):List AV→List (Nat × AV)→Option (List AV)
  | cs,[]=>some cs
  | cs,(i,x) :: r=>match place i,acells x with
    | some (off,size),some xs=>if xs.length=size∧off + xs.length≤cs.length then afill place (asplice cs off xs) r else none
    | _,_=>none
theorem fill_ok {N:Nat} {D:Nat→Prop} {loc:Nat→Option Value} {w:World} {place:Nat→Option (Nat × Nat)} : ∀ {ps:List (Nat × AV)} {qs:List (Nat × Value)} {cs cs' : List AV} {us:Array Value},qs.length=ps.length→(∀ (j:Nat) i x i' v,ps[j]? = some (i,x)→qs[j]? = some (i',v)→i=i' ∧ AR N D loc w x v) →
    Cs N D loc w cs us→afill place cs ps=some cs' → ∃ us',Instr.fill place us qs=some us' ∧ Cs N D loc w cs' us'
  | [],[],cs,cs',us,_,_,hc,h=>by cases h;exact ⟨us,rfl,hc⟩
  | (i,x) :: ps,(i',v) :: qs,cs,cs',us,hl,hpq,hc,h=>by
    obtain ⟨rfl,hx⟩:=hpq 0 i x i' v rfl rfl
    simp only [afill] at h
    split at h
    · rename_i off size xs hp hxs
      split at h
      · rename_i hcond
        have hk:Cs N D loc w xs v.cells:=acells_ok hx hxs
        obtain ⟨us',h1,h2⟩:=fill_ok (ps:=ps) (qs:=qs) (by simpa using hl) (fun j a b c d e f=>hpq (j + 1) a b c d e f) (hc.splice hk hcond.2) h
        refine ⟨us',?_,h2⟩
        rw [Instr.fill,hp]
        simp only
        rw [if_neg (by rw [hk.1,hc.1];simp [hcond.1];have:=hcond.2;omega)]
        exact h1
      · cases h
    · cases h
def tyStruct (P:Program) (t:TypeId):Option (List Value × List (Nat × Nat)):=match P.underlying t,tyZero P t with
  | some (.struct fs),some zs=>(fs.toList.mapM fun f=>(tySz P f.type).map fun n=>(f.offset,n)).map fun pl=>(zs,pl)
  | _,_=>none
def tyArray (P:Program) (t:TypeId):Option (List Value × Nat × Nat):=match P.underlying t,tyZero P t with
  | some (.array n e),some zs=>(tySz P e).map fun k=>(zs,k,n)
  | _,_=>none
theorem tyZero_spec {P:Program} {t:TypeId} {zs:List Value} (h:tyZero P t=some zs) : ∃ i z,P.info? t=some i∧i.zero=some z∧z.cells.toList=zs ∧ ∀ v ∈ zs,v.oneCell' = true:=by
  unfold tyZero at h
  split at h
  · rename_i z hz
    split at h
    · rename_i hone
      cases h
      obtain ⟨i,hi,hiz⟩:=Option.bind_eq_some_iff.1 hz
      exact ⟨i,z,hi,hiz,rfl,fun v hv=>Array.all_eq_true_iff_forall_mem.1 hone v (by simpa using hv)⟩
    · cases h
  · cases h
theorem Cs.zero (N:Nat) (D:Nat→Prop) (loc:Nat→Option Value) (w:World) {vs:Array Value} (h : ∀ v ∈ vs.toList,v.oneCell' = true):Cs N D loc w (vs.toList.map fun v => .p (.val v)) vs:=by
  refine ⟨by simp,fun j x hx=>?_,fun j hj=>?_⟩
  · simp only [List.getElem?_map,Option.map_eq_some_iff] at hx
    obtain ⟨v,hv,rfl⟩:=hx
    have hv' : vs[j]? = some v:=by simpa using hv
    rw [Array.getD_eq_getD_getElem?,hv']
    exact .of_val v (h v (List.mem_of_getElem? hv))
  · rw [Array.getD_eq_getD_getElem?,Array.getElem?_eq_getElem hj]
    exact h _ (by simp)
section
variable {P:Program} {ops:Array Oper} {o:Oper} {s:ASt}
def abuild (P:Program) (s:ASt) (t:TypeId) (parts:List (Nat × Operand)):Option AV:=match tyStruct P t with
  | some (zs,pl)=>(afill (fun i=>pl[i]?) (zs.map fun v => .p (.val v)) (parts.map fun p=>(p.1,s.ev p.2))).map .agg
  | none=>match tyArray P t with
    | some (zs,n,_)=>(afill (fun i=>some (i * n,n)) (zs.map fun v => .p (.val v)) (parts.map fun p=>(p.1,s.ev p.2))).map .agg
    | none=>none
def fldG (f:Field):Sem (Nat × Nat):=do pure (f.offset,← sizeOf f.type)
theorem mapM_sizes {P:Program} {w:World} : ∀ (fs:List Field) (pl:List (Nat × Nat)),(fs.mapM fun f=>(tySz P f.type).map fun n=>(f.offset,n))=some pl→(fs.mapM fldG).run P w = .ok pl w
  | [],pl,h=>by
    simp only [List.mapM_nil,Option.pure_def,Option.some.injEq] at h
    subst h;simp
  | f :: fs,pl,h=>by
    simp only [List.mapM_cons,Option.bind_eq_bind,Option.bind_eq_some_iff,Option.pure_def,Option.some.injEq] at h
    obtain ⟨q,h1,pl',h2,rfl⟩:=h
    obtain ⟨n,hn,rfl⟩:=Option.map_eq_some_iff.1 h1
    obtain ⟨i,hi,hin⟩:=Option.map_eq_some_iff.1 hn
    have hg:(fldG f).run P w = .ok (f.offset,n) w:=by simp [fldG,sizeOf,typeInfo,hi,hin]
    simp only [List.mapM_cons,Sem.run_bind,hg,Result.andThen_ok,mapM_sizes fs pl' h2,Sem.run_pure]
theorem run_build_struct {P:Program} {t:TypeId} {fs:Array Field} {i:TypeInfo} {z:Value} {pl:List (Nat × Nat)} (hu:P.underlying t=some (.struct fs)) (hi:P.info? t=some i) (hz:i.zero=some z) (hpl:(fs.toList.mapM fun f=>(tySz P f.type).map fun n=>(f.offset,n))=some pl)
    {parts:Array (Nat × Value)} {cells:Array Value} (hf:Instr.fill (fun k=>pl[k]?) z.cells parts.toList=some cells) (w:World):(Instr.build t parts).run P w = .ok (.agg cells) w:=by
  have hm:(fs.mapM fldG).run P w = .ok pl.toArray w:=by
    obtain ⟨l,rfl⟩ : ∃ l,fs=List.toArray l:=⟨fs.toList,by simp⟩
    have:=mapM_sizes (P:=P) (w:=w) l pl (by simpa using hpl)
    rw [List.mapM_toArray]
    change (l.mapM fldG >>= fun a=>pure a.toArray).run P w=_
    simp only [Sem.run_bind,this,Result.andThen_ok,Sem.run_pure]
  have hf' : Instr.fill (fun x=>pl.toArray[x]?) z.cells parts.toList=some cells:=by simpa using hf
  unfold fldG at hm
  unfold Instr.build
  simp only [Sem.run_bind,zeroValue,typeInfo,run_program,Result.andThen_ok,hi,Sem.run_pure,hz,run_underlying hu]
  rw [hm]
  simp only [Result.andThen_ok,hf',Sem.run_pure]
theorem run_build_array {P:Program} {t e:TypeId} {n k:Nat} {i:TypeInfo} {z:Value} (hu:P.underlying t=some (.array n e)) (hi:P.info? t=some i) (hz:i.zero=some z) (he:tySz P e=some k)
    {parts:Array (Nat × Value)} {cells:Array Value} (hf:Instr.fill (fun i=>some (i * k,k)) z.cells parts.toList=some cells) (w:World):(Instr.build t parts).run P w = .ok (.agg cells) w:=by
  obtain ⟨j,hj,hjk⟩:=Option.map_eq_some_iff.1 he
  unfold Instr.build
  simp only [Sem.run_bind,zeroValue,typeInfo,run_program,Result.andThen_ok,hi,Sem.run_pure,hz,run_underlying hu,sizeOf,hj,hjk,hf]
theorem op_build (t:TypeId) (parts:Array (Nat × Operand)) (av:AV) (h:o.op = .build t parts) (hl:abuild P s t parts.toList=some av):OpVal P ops o s av := .pure fun L loc a w hr=>by
  have hev : ∀ (j i:Nat) (x:AV) (i' : Nat) (v:Value),(parts.toList.map fun p=>(p.1,s.ev p.2))[j]? = some (i,x)→(parts.map fun (i,x)=>(i,a.eval x)).toList[j]? = some (i',v)→i=i' ∧ AR s.N (Dm L loc) loc w x v:=fun j i x i' v h1 h2=>by
    simp only [Array.toList_map,List.getElem?_map,Option.map_eq_some_iff] at h1 h2
    obtain ⟨p,hp,e1⟩:=h1
    obtain ⟨p',hp',e2⟩:=h2
    rw [hp] at hp'
    cases hp'
    cases e1
    cases e2
    refine ⟨rfl,hr.ev p.2 (looks_mem ?_)⟩
    simp only [h,Op.operands]
    exact List.mem_map.2 ⟨p,List.mem_of_getElem? hp,rfl⟩
  have hlen:(parts.map fun (i,x)=>(i,a.eval x)).toList.length=(parts.toList.map fun p=>(p.1,s.ev p.2)).length:=by simp
  have he : ∀ v,(Instr.build t (parts.map fun (i,x)=>(i,a.eval x))).run P w = .ok v w→(execOp a.eval o).run P w = .ok (.value v) w:=fun v hv=>by simp only [execOp,h,Sem.run_bind,hv,Result.andThen_ok,Sem.run_pure]
  unfold abuild at hl
  split at hl
  · rename_i zs pl hst
    obtain ⟨cs',hf,rfl⟩:=Option.map_eq_some_iff.1 hl
    unfold tyStruct at hst
    split at hst
    · rename_i fs zs' hu hz
      obtain ⟨pl',hpl,e⟩:=Option.map_eq_some_iff.1 hst
      cases e
      obtain ⟨i,z,hi,hiz,rfl,hone⟩:=tyZero_spec hz
      obtain ⟨us',h1,h2⟩:=fill_ok hlen hev (Cs.zero s.N (Dm L loc) loc w (vs:=z.cells) hone) hf
      exact ⟨.agg us',he _ (run_build_struct hu hi hiz hpl h1 w),.agg cs' us' h2.1 h2.2.1 h2.2.2⟩
    · cases hst
  · split at hl
    · rename_i zs n m hst
      obtain ⟨cs',hf,rfl⟩:=Option.map_eq_some_iff.1 hl
      unfold tyArray at hst
      split at hst
      · rename_i k e' zs' hu hz
        obtain ⟨k',hk,e⟩:=Option.map_eq_some_iff.1 hst
        cases e
        obtain ⟨i,z,hi,hiz,rfl,hone⟩:=tyZero_spec hz
        obtain ⟨us',h1,h2⟩:=fill_ok hlen hev (Cs.zero s.N (Dm L loc) loc w (vs:=z.cells) hone) hf
        exact ⟨.agg us',he _ (run_build_array hu hi hiz hk h1 w),.agg cs' us' h2.1 h2.2.1 h2.2.2⟩
      · cases hst
    · cases hl
def pureL:List AV→Option (List PV)
  | []=>some []
  | .p x :: r=>(pureL r).map (x :: ·)
  | _=>none
theorem pureL_spec : ∀ {cs:List AV} {xs:List PV},pureL cs=some xs→cs=xs.map .p
  | [],xs,h=>by cases h;rfl
  | c :: r,xs,h=>by
    cases c <;> try cases h
    rename_i x
    obtain ⟨ys,hy,rfl⟩:=Option.map_eq_some_iff.1 h
    rw [pureL_spec hy];rfl
def chunks {α:Type} (n:Nat):Nat→List α→List (List α)
  | 0,_ => []
  | k + 1,l=>l.take n :: chunks n k (l.drop n)
theorem chunks_len {α:Type} (n:Nat) : ∀ (k:Nat) (l:List α),(chunks n k l).length=k
  | 0,_=>rfl
  | k + 1,l=>by simp [chunks,chunks_len n k]
theorem chunks_get {α:Type} (n:Nat) : ∀ (k:Nat) (l:List α) (i:Nat) (r:List α),(chunks n k l)[i]? = some r→r=(l.drop (i * n)).take n
  | 0,l,i,r,h=>by simp [chunks] at h
  | k + 1,l,0,r,h=>by simp [chunks] at h;simp [h]
  | k + 1,l,i + 1,r,h=>by
    simp only [chunks,List.getElem?_cons_succ] at h
    rw [chunks_get n k _ i r h,List.drop_drop]
    congr 2
    rw [Nat.add_mul];omega
def abuildS (P:Program) (s:ASt) (t:TypeId) (len:Nat) (parts:List (Nat × Operand)):Option AV:=match P.underlying t with
  | some (.slice e)=>match tyZero P e,tySz P e with
    | some zs,some n=>if zs.length=n ∧ 0 < n∧len * n ≤ 16777216∧len≤maxLen then match afill (fun i=>some (i * n,n)) ((List.range (len * n)).map fun j => .p (.val (zs.getD (j % n) undef))) (parts.map fun p=>(p.1,s.ev p.2)) with
      | some cs=>(pureL cs).map fun xs => .p (.seq n (chunks n len xs))
      | none=>none
      else none
    | _,_=>none
  | _=>none
end
end Go.Proofs.Ytnckehomadnhoaa
namespace Go.Proofs.Ytnckehomadnhoaa
open Go.RowKit Go.Sort
section
variable {P:Program} {ops:Array Oper} {o:Oper} {s:ASt}
theorem PR.of_block {D:Nat→Prop} {w:World} {n:Nat} {rows:List (List PV)} {b cap:Nat} {arr:Array Value} {ty:TypeId} {fr:Nat × Nat} (h:w.heap[b]? = some (.cells arr ty fr)) (hD : ¬ D b) (hcap:rows.length≤cap) (hmax:cap≤maxLen) (hn : ∀ r ∈ rows,r.length=n)
    (hv : ∀ (k:Nat) r (j:Nat) x,rows[k]? = some r→r[j]? = some x → ∃ v,arr[k * n + j]? = some v∧PR D w x v):PR D w (.seq n rows) (.slice (some ⟨b,0,none⟩) rows.length cap):=by
  refine .seq n b 0 cap rows (fun k j=>arr.getD (k * n + j) undef) (Array.getElem?_eq_some_iff.1 h).1 hD hcap hmax hn (fun k r j x h1 h2=>?_) (fun k r j x h1 h2=>?_)
  · obtain ⟨v,h3,h4⟩:=hv k r j x h1 h2
    rw [row_cells h,Nat.zero_add,h3,Array.getD_eq_getD_getElem?,h3];rfl
  · obtain ⟨v,h3,h4⟩:=hv k r j x h1 h2
    rw [Array.getD_eq_getD_getElem?,h3];exact h4
theorem op_buildS (t:TypeId) (len:Nat) (parts:Array (Nat × Operand)) (av:AV) (h:o.op = .buildSlice t len parts) (hl:abuildS P s t len parts.toList=some av):OpVal P ops o s av:=fun L loc a w hr=>by
  have hev : ∀ (j i:Nat) (x:AV) (i' : Nat) (v:Value),(parts.toList.map fun p=>(p.1,s.ev p.2))[j]? = some (i,x)→(parts.map fun (i,x)=>(i,a.eval x)).toList[j]? = some (i',v)→i=i' ∧ AR s.N (Dm L loc) loc w x v:=fun j i x i' v h1 h2=>by
    simp only [Array.toList_map,List.getElem?_map,Option.map_eq_some_iff] at h1 h2
    obtain ⟨p,hp,e1⟩:=h1
    obtain ⟨p',hp',e2⟩:=h2
    rw [hp] at hp'
    cases hp'
    cases e1
    cases e2
    refine ⟨rfl,hr.ev p.2 (looks_mem ?_)⟩
    simp only [h,Op.operands]
    exact List.mem_map.2 ⟨p,List.mem_of_getElem? hp,rfl⟩
  have hlen:(parts.map fun (i,x)=>(i,a.eval x)).toList.length=(parts.toList.map fun p=>(p.1,s.ev p.2)).length:=by simp
  unfold abuildS at hl
  split at hl
  · rename_i e hu
    split at hl
    · rename_i zs n hz hs
      split at hl
      · rename_i hcond
        obtain ⟨hzl,hn0,hmax,hml⟩:=hcond
        split at hl
        · rename_i cs hf
          obtain ⟨xs,hxs,rfl⟩:=Option.map_eq_some_iff.1 hl
          obtain ⟨i,z,hi,hiz,hzc,hone⟩:=tyZero_spec hz
          have hzsz:z.cells.size=n:=by rw [← hzl,← hzc];simp
          have hz0:Cs s.N (Dm L loc) loc w ((List.range (len * n)).map fun j => .p (.val (zs.getD (j % n) undef))) ((Array.range (len * n)).map fun j=>z.cells[j % z.cells.size]!):=by
            have e1 : ∀ j,z.cells[j % z.cells.size]! = zs.getD (j % n) undef:=fun j=>by
              have:j % n < z.cells.size:=by rw [hzsz];exact Nat.mod_lt _ hn0
              rw [hzsz,getElem!_pos z.cells _ this,← hzc,List.getD_eq_getElem?_getD,Array.getElem?_toList,Array.getElem?_eq_getElem this]
              rfl
            have e2:(Array.range (len * n)).map (fun j=>z.cells[j % z.cells.size]!)=((List.range (len * n)).map fun j=>zs.getD (j % n) undef).toArray:=by
              apply Array.ext'
              simp [e1]
            rw [e2]
            have:=Cs.zero s.N (Dm L loc) loc w (vs:=((List.range (len * n)).map fun j=>zs.getD (j % n) undef).toArray) (fun v hv=>by
              obtain ⟨j,_,rfl⟩:=List.mem_map.1 (show v ∈ (List.range (len * n)).map (fun j=>zs.getD (j % n) undef) from hv)
              have:j % n < zs.length:=by rw [hzl];exact Nat.mod_lt _ hn0
              rw [List.getD_eq_getElem?_getD,List.getElem?_eq_getElem this]
              exact hone _ (List.getElem_mem this))
            simpa [List.map_map,Function.comp_def] using this
          obtain ⟨us',h1,h2⟩:=fill_ok hlen hev hz0 hf
          obtain ⟨i',hi',his⟩:=Option.map_eq_some_iff.1 hs
          rw [hi] at hi'
          cases hi'
          have hrun:(Instr.buildSlice t len (parts.map fun (i,x)=>(i,a.eval x))).run P w = .ok (.slice (some ⟨w.heap.size,0,none⟩) len len) (w.alloc (.cells us' e)):=by
            have hm : ¬ (len * n > 2 ^ 24):=by omega
            have hnr : ∀ c:Array Value,(newRow e c).run P w = .ok ⟨w.heap.size,0,none⟩ (w.alloc (.cells c e)):=fun c=>by simp [newRow]
            unfold Instr.buildSlice
            by_cases h0:len * n=0
            · have e3:(Array.range (len * n)).map (fun j=>z.cells[j % z.cells.size]!)=(Array.range (len * n)).map (fun j=>(#[] : Array Value)[j % (#[] : Array Value).size]!):=by rw [h0];apply Array.ext';simp
              rw [e3] at h1
              simp only [Sem.run_bind,run_underlying hu,Result.andThen_ok,sizeOf,typeInfo,run_program,hi,his,Sem.run_pure,if_neg hm,if_pos h0,h1,hnr]
            · simp only [Sem.run_bind,run_underlying hu,Result.andThen_ok,sizeOf,typeInfo,run_program,hi,his,Sem.run_pure,if_neg hm,if_neg h0,zeroValue,hiz,h1,hnr]
          refine .inl ⟨_,_,by simp only [execOp,h,Sem.run_bind,hrun,Result.andThen_ok,Sem.run_pure];rfl,(Blw.refl _ _).alloc (Nat.le_refl _) _,?_⟩
          have hbl:Blw w.heap.size w (w.alloc (.cells us' e)):=(Blw.refl _ _).alloc (Nat.le_refl _) _
          have hcs:=pureL_spec hxs
          have hcl:cs.length=len * n:=by
            have : ∀ (ps:List (Nat × AV)) (c c' : List AV),afill (fun i=>some (i * n,n)) c ps=some c' → c'.length=c.length:=by
              intro ps
              induction ps with
              | nil=>intro c c' h;cases h;rfl
              | cons p r ih =>
                intro c c' h
                obtain ⟨k,x⟩:=p
                simp only [afill] at h
                split at h
                · split at h
                  · rename_i hc
                    rw [ih _ _ h,asplice_len hc.2]
                  · cases h
                · cases h
            rw [this _ _ _ hf];simp
          have hxl:xs.length=len * n:=by rw [← hcl,hcs];simp
          have:=PR.of_block (D:=Dm L loc) (rows:=chunks n len xs) (cap:=len) (n:=n) (heap_alloc_at' w (.cells us' e) _ rfl) (fun hd=>Nat.lt_irrefl _ (hr.hp.dm_lt hd)) (by rw [chunks_len];exact Nat.le_refl _) hml (fun r hr'=>?_) (fun k r j x hk hx=>?_)
          · rw [chunks_len] at this
            exact .p _ _ this
          · obtain ⟨k,hk,rfl⟩:=List.mem_iff_getElem.1 hr'
            rw [chunks_len] at hk
            have e1:=chunks_get n len xs k _ (List.getElem?_eq_getElem (by rw [chunks_len];exact hk))
            rw [e1,List.length_take,List.length_drop,hxl]
            have:(k + 1) * n≤len * n:=Nat.mul_le_mul_right n hk
            rw [Nat.add_mul] at this
            omega
          · have e1:=chunks_get n len xs k _ hk
            rw [e1,List.getElem?_take] at hx
            split at hx
            · rw [List.getElem?_drop] at hx
              have hx' : cs[k * n + j]? = some (.p x):=by rw [hcs,List.getElem?_map,hx];rfl
              have h5:=h2.2.1 _ _ hx'
              have hlt:=(List.getElem?_eq_some_iff.1 hx').1
              rw [← h2.1] at hlt
              rw [Array.getD_eq_getD_getElem?,Array.getElem?_eq_getElem hlt] at h5
              refine ⟨_,Array.getElem?_eq_getElem hlt,?_⟩
              cases h5 with
              | p _ _ hp=>exact hp.mono (.of_below hbl) (fun _ _ h=>h)
            · cases hx
        · cases hl
      · cases hl
    · cases hl
  · cases hl
def aslice (P:Program) (s:ASt) (t:TypeId) (lo hi:Option Int) (x:AV):Option AV:=match x with
  | .own tag=>match s.hp.lookup tag with
    | some (.row _ n rows)=>if elemSz P t=some n∧lo=none ∧ 0 < rows.length ∧ 0≤hi.getD rows.length∧hi.getD rows.length≤rows.length then some (.pre tag (hi.getD rows.length).toNat) else if elemSz P t=some n∧hi=none ∧ 0≤lo.getD 0∧(lo.getD 0).toNat < rows.length then some (.suf tag n (lo.getD 0).toNat) else none
    | _=>none
  | .p (.seq n rows)=>if elemSz P t=some n ∧ 0≤lo.getD 0∧lo.getD 0≤hi.getD rows.length∧hi.getD rows.length≤rows.length then some (.p (.seq n ((rows.take (hi.getD rows.length).toNat).drop (lo.getD 0).toNat))) else none
  | .p (.val (.slice none 0 0))=>if (elemSz P t).isSome=true∧lo.getD 0=0∧hi.getD 0=0 then some x else none
  | _=>none
def evI (s:ASt) (x:Option Operand):Option (Option Int):=match x with
  | none=>some none
  | some x=>match s.ev x with
    | .p (.val (.int _ n))=>some (some n)
    | _=>none
theorem PR.slice {D:Nat→Prop} {w:World} {n:Nat} {rows:List (List PV)} {ad:Option Addr} {len cap:Nat} (h:PR D w (.seq n rows) (.slice ad len cap)) {l u:Nat} (hlu:l≤u) (hu:u≤rows.length) :
    len=rows.length∧rows.length≤cap∧PR D w (.seq n ((rows.take u).drop l)) (.slice (if cap=l then ad else ad.map (·.add (l * n))) (u - l) (cap - l)):=by
  cases h with
  | nil n a cap h0 =>
    obtain rfl:u=0:=by simpa using hu
    obtain rfl:l=0:=by omega
    refine ⟨rfl,Nat.zero_le _,?_⟩
    have:=PR.nil (D:=D) (w:=w) n (if cap=0 then ad else ad.map (·.add (0 * n))) (cap - 0) (fun e=>by
      split at e
      · omega
      · have:=h0 (by simpa using e);omega)
    simpa using this
  | seq n b off cap rows f hb hnD hcap hmax hn hc hr =>
    refine ⟨rfl,hcap,?_⟩
    have hlen:((rows.take u).drop l).length=u - l:=by simp;omega
    have hget : ∀ k r,((rows.take u).drop l)[k]? = some r→rows[l + k]? = some r:=fun k r h=>by
      rw [List.getElem?_drop,List.getElem?_take] at h
      split at h
      · exact h
      · cases h
    have main:PR D w (.seq n ((rows.take u).drop l)) (.slice (some ⟨b,off + l * n,none⟩) ((rows.take u).drop l).length (cap - l)):=by
      refine .seq n b (off + l * n) (cap - l) _ (fun k j=>f (l + k) j) hb hnD (by omega) (by omega) (fun r hr'=>hn r (List.mem_of_mem_take (List.mem_of_mem_drop hr'))) (fun k r j x hk hx=>?_) (fun k r j x hk hx=>hr _ r j x (hget k r hk) hx)
      rw [← hc _ r j x (hget k r hk) hx]
      congr 2
      rw [Nat.add_mul];omega
    by_cases e:cap=l
    · rw [if_pos e]
      have h0:(rows.take u).drop l = []:=List.eq_nil_of_length_eq_zero (by omega)
      rw [h0]
      have h1:u - l=0:=by omega
      have:=PR.seq (D:=D) (w:=w) n b off (cap - l) [] (fun _ _=>undef) hb hnD (by simp) (by omega) (fun r h=>by cases h) (fun k r j x h=>by simp at h) (fun k r j x h=>by simp at h)
      rw [h1]
      exact this
    · rw [if_neg e]
      rw [hlen] at main
      have e2:(some (⟨b,off,none⟩ : Addr)).map (·.add (l * n))=some ⟨b,off + l * n,none⟩:=by simp [Addr.add_mid]
      rw [e2]
      exact main
theorem run_bounds {P:Program} {w:World} {len cap:Nat} {lo hi:Option Value} {l u:Int} (hlo:(lo=none∧l=0) ∨ ∃ k,lo=some (.int k l)) (hhi:(hi=none∧u=len) ∨ ∃ k,hi=some (.int k u)) (h0 : 0≤l) (h1:l≤u) (h2:u≤len) (h3:len≤cap) :
    (Instr.sliceBounds true len cap lo hi none).run P w = .ok (l.toNat,u.toNat,cap) w:=by
  have hu0 : 0≤u:=by omega
  have huc:u≤(cap:Int):=by omega
  have hlu:l≤((u.toNat:Nat):Int):=by omega
  rcases hlo with ⟨rfl,rfl⟩|⟨k,rfl⟩ <;> rcases hhi with ⟨rfl,rfl⟩|⟨k',rfl⟩ <;> simp [Instr.sliceBounds,Instr.sliceBound,asIntOf,hu0,huc,hlu,h0]
  all_goals first|omega|(intro _;omega)
theorem op_slice (t:TypeId) (x:Operand) (lo hi:Option Operand) (li ui:Option Int) (av:AV) (h:o.op = .slice t x lo hi none) (h1:evI s lo=some li) (h2:evI s hi=some ui) (hl:aslice P s t li ui (s.ev x)=some av):OpVal P ops o s av := .pure fun L loc a w hr=>by
  have hx:=hr.ev x (looks_mem (by simp [h,Op.operands]))
  have hlo : ∀ n,(lo.map a.eval=none∧li.getD n=n∧li=none) ∨ ∃ k m,lo.map a.eval=some (.int k m)∧li=some m:=fun n=>by
    cases lo with
    | none=>cases h1;exact .inl ⟨rfl,rfl,rfl⟩
    | some y =>
      simp only [evI] at h1
      split at h1
      · rename_i k m hy
        cases h1
        have:=hr.ev y (looks_mem (by simp [h,Op.operands]))
        rw [hy] at this
        exact .inr ⟨k,m,by simp [this.val],rfl⟩
      · cases h1
  have hhi : ∀ n,(hi.map a.eval=none∧ui.getD n=n∧ui=none) ∨ ∃ k m,hi.map a.eval=some (.int k m)∧ui=some m:=fun n=>by
    cases hi with
    | none=>cases h2;exact .inl ⟨rfl,rfl,rfl⟩
    | some y =>
      simp only [evI] at h2
      split at h2
      · rename_i k m hy
        cases h2
        have:=hr.ev y (looks_mem (by simp [h,Op.operands]))
        rw [hy] at this
        exact .inr ⟨k,m,by simp [this.val],rfl⟩
      · cases h2
  have he : ∀ v,(Instr.sliceAt t (a.eval x) (lo.map a.eval) (hi.map a.eval) none).run P w = .ok v w→(execOp a.eval o).run P w = .ok (.value v) w:=fun v hv=>by simp only [execOp,h,Option.map_none,Sem.run_bind,hv,Result.andThen_ok,Sem.run_pure]
  have hrunS : ∀ {ad:Option Addr} {len cap n:Nat} {l u:Int},elemSz P t=some n→((lo.map a.eval=none∧l=0) ∨ ∃ k,lo.map a.eval=some (.int k l))→((hi.map a.eval=none∧u=len) ∨ ∃ k,hi.map a.eval=some (.int k u)) → 0≤l→l≤u→u≤len→len≤cap →
      (Instr.sliceAt t (.slice ad len cap) (lo.map a.eval) (hi.map a.eval) none).run P w = .ok (.slice (if cap=l.toNat then ad else ad.map (·.add (l.toNat * n))) (u.toNat - l.toNat) (cap - l.toNat)) w:=by
    intro ad len cap n l u he hlo hhi g0 g1 g2 g3
    unfold elemSz at he
    split at he
    · rename_i e hu
      obtain ⟨i,hi',hin⟩:=Option.map_eq_some_iff.1 he
      have hb:=run_bounds (P:=P) (w:=w) hlo hhi g0 g1 g2 g3
      simp only [Instr.sliceAt,Instr.slice,Sem.run_bind,run_underlying hu,Result.andThen_ok,hb,sizeOf,typeInfo,run_program,hi',hin,Sem.run_pure]
    · cases he
  generalize a.eval x=v at *
  generalize s.ev x=y at *
  unfold aslice at hl
  split at hl
  · rename_i tag
    cases hlk:s.hp.lookup tag with
    | none=>rw [hlk] at hl;cases hl
    | some ob =>
      rw [hlk] at hl
      obtain ⟨htN,u',hu',hor⟩:=hr.hp.at' tag ob hlk
      cases ob with
      | map _ _ _ _ _=>cases hl
      | raw _ _=>cases hl
      | lrec _ _ _=>cases hl
      | amap _ _ _ _ _=>cases hl
      | arow _ _=>cases hl
      | boxP pin ty cs=>cases hl
      | row e n rows =>
        simp only at hl
        split at hl
        · rename_i hcond
          obtain ⟨c1,c2,c0,c3,c4⟩:=hcond
          cases hl
          obtain ⟨flat,hown,_⟩:=hor
          cases hx with
          | own _ _ _ _ hv =>
          obtain rfl:=hv _ hu'
          rcases hown.2 with ⟨_,h0⟩|⟨g,cap,cur,rfl,_,_,hle,_⟩
          · omega
          · have hn0:hi.map a.eval=none∧ui.getD rows.length=(rows.length:Int) ∨ ∃ k,hi.map a.eval=some (.int k (ui.getD rows.length)):=by
              rcases hhi rows.length with ⟨g1,g2,_⟩|⟨k,m,g1,rfl⟩
              · exact .inl ⟨g1,g2⟩
              · exact .inr ⟨k,g1⟩
            have hl0:lo.map a.eval=none∧(0:Int)=0 ∨ ∃ k,lo.map a.eval=some (.int k 0):=by
              rcases hlo 0 with ⟨g1,_,_⟩|⟨k,m,g1,e⟩
              · exact .inl ⟨g1,rfl⟩
              · rw [c2] at e;cases e
            have:=hrunS (ad:=some ⟨g,0,none⟩) (len:=rows.length) (cap:=cap) (l := 0) (u:=ui.getD rows.length) c1 hl0 hn0 (by omega) c3 c4 hle
            have e2:(if cap=(0:Int).toNat then (some (⟨g,0,none⟩ : Addr)) else (some (⟨g,0,none⟩ : Addr)).map (·.add ((0:Int).toNat * n)))=some ⟨g,0,none⟩:=by
              rw [if_neg (by simp;omega)];simp [Addr.add_mid]
            rw [e2] at this
            refine ⟨_,he _ this,.pre tag _ _ htN rfl fun b l c hb=>?_⟩
            rw [hu'] at hb
            cases hb
            rfl
        · split at hl
          · rename_i hcond
            obtain ⟨c1,c2,c3,c4⟩:=hcond
            cases hl
            obtain ⟨flat,hown,_⟩:=hor
            cases hx with
            | own _ _ _ _ hv =>
            obtain rfl:=hv _ hu'
            rcases hown.2 with ⟨_,h0⟩|⟨g,cap,cur,rfl,_,_,hle,_⟩
            · omega
            · have hn0:hi.map a.eval=none∧((rows.length:Nat):Int)=(rows.length:Int) ∨ ∃ k,hi.map a.eval=some (.int k ((rows.length:Nat):Int)):=by
                rcases hhi rows.length with ⟨g1,_,_⟩|⟨k,m,g1,e⟩
                · exact .inl ⟨g1,rfl⟩
                · rw [c2] at e;cases e
              have hl0:lo.map a.eval=none∧li.getD 0=0 ∨ ∃ k,lo.map a.eval=some (.int k (li.getD 0)):=by
                rcases hlo 0 with ⟨g1,g2,_⟩|⟨k,m,g1,rfl⟩
                · exact .inl ⟨g1,g2⟩
                · exact .inr ⟨k,g1⟩
              have:=hrunS (ad:=some ⟨g,0,none⟩) (len:=rows.length) (cap:=cap) (l:=li.getD 0) (u:=((rows.length:Nat):Int)) c1 hl0 hn0 c3 (by omega) (Int.le_refl _) hle
              rw [if_neg (by omega),Option.map_some,Addr.add_mid,Nat.zero_add] at this
              refine ⟨_,he _ this,.suf tag n _ _ htN rfl fun b l c hb=>?_⟩
              rw [hu'] at hb
              cases hb
              rfl
          · cases hl
  · rename_i n rows
    split at hl
    · rename_i hcond
      obtain ⟨c1,c2,c3,c4⟩:=hcond
      cases hl
      cases hx with
      | p _ _ hp =>
      have hsl : ∃ ad len cap,v = .slice ad len cap:=by
        cases hp with
        | nil n a cap h0=>exact ⟨_,_,_,rfl⟩
        | seq=>exact ⟨_,_,_,rfl⟩
      obtain ⟨ad,len,cap,rfl⟩:=hsl
      obtain ⟨e1,e2,e3⟩:=hp.slice (l:=(li.getD 0).toNat) (u:=(ui.getD rows.length).toNat) (by omega) (by omega)
      subst e1
      refine ⟨_,he _ (hrunS c1 (l:=li.getD 0) (u:=ui.getD rows.length) ?_ ?_ c2 c3 c4 e2),.p _ _ e3⟩
      · rcases hlo 0 with ⟨g1,g2,_⟩|⟨k,m,g1,rfl⟩
        · exact .inl ⟨g1,g2⟩
        · exact .inr ⟨k,g1⟩
      · rcases hhi rows.length with ⟨g1,g2,_⟩|⟨k,m,g1,rfl⟩
        · exact .inl ⟨g1,g2⟩
        · exact .inr ⟨k,g1⟩
    · cases hl
  · split at hl
    · rename_i hcond
      obtain ⟨c1,c2,c3⟩:=hcond
      cases hl
      obtain ⟨n,c1⟩:=Option.isSome_iff_exists.1 c1
      obtain rfl:=hx.val
      have:=hrunS (ad:=none) (len := 0) (cap := 0) (l := 0) (u := 0) c1 ?_ ?_ (by omega) (by omega) (by simp) (by simp)
      · exact ⟨_,he _ this,.of_val _ rfl⟩
      · rcases hlo 0 with ⟨g1,_,_⟩|⟨k,m,g1,rfl⟩
        · exact .inl ⟨g1,rfl⟩
        · simp at c2;subst c2;exact .inr ⟨k,g1⟩
      · rcases hhi 0 with ⟨g1,_,_⟩|⟨k,m,g1,rfl⟩
        · exact .inl ⟨g1,rfl⟩
        · simp at c3;subst c3;exact .inr ⟨k,g1⟩
    · cases hl
  · cases hl
end
end Go.Proofs.Ytnckehomadnhoaa
namespace Go.Proofs.Ytnckehomadnhoaa
open Go.RowKit Go.Sort
section
variable {P:Program} {ops:Array Oper} {o:Oper} {s:ASt}
theorem run_part' {N:Nat} {D:Nat→Prop} {loc:Nat→Option Value} {w:World} {t:TypeId} {cs:List AV} {vs:Array Value} {off:Nat} {av:AV} (hc:Cs N D loc w cs vs) (h:aloadC P t cs off=some av) : ∃ v,(part t vs off).run P w = .ok v w∧AR N D loc w av v:=by
  unfold aloadC at h
  cases h1:tyRow P t with
  | none=>rw [h1] at h;cases h
  | some r =>
    cases h2:tySz P t with
    | none=>rw [h1,h2] at h;cases r <;> cases h
    | some n =>
      rw [h1,h2] at h
      unfold tyRow at h1
      obtain ⟨d,hu,hd⟩:=Option.map_eq_some_iff.1 h1
      obtain ⟨i,hi,hin⟩:=Option.map_eq_some_iff.1 h2
      cases r with
      | true =>
        simp only at h
        split at h
        · rename_i hl
          simp only [Option.some.injEq] at h
          subst h
          have hagg:(isAgg t).run P w = .ok true w:=by
            unfold isAgg
            rw [Sem.run_bind,run_underlying hu w]
            cases d <;> simp_all
          have hget : ∀ j,(vs.extract off (off + n)).getD j undef=if j < n then vs.getD (off + j) undef else undef:=fun j=>by
            rw [Array.getD_eq_getD_getElem?,Array.getElem?_extract,Array.getD_eq_getD_getElem?]
            by_cases hj:j < n
            · rw [if_pos hj,if_pos (by rw [hc.1];omega)]
            · rw [if_neg hj,if_neg (by omega)];rfl
          have hsz:(vs.extract off (off + n)).size=n:=by rw [Array.size_extract,hc.1];omega
          refine ⟨.agg (vs.extract off (off + n)),by simp only [part,Sem.run_bind,hagg,Result.andThen_ok,if_true,sizeOf,typeInfo,run_program,hi,hin,Sem.run_pure],.agg _ _ (by rw [hsz];simp;omega) (fun j x hx=>?_) (fun j hj=>?_)⟩
          · obtain ⟨hlt,_⟩:=List.getElem?_eq_some_iff.1 hx
            simp only [List.length_take,List.length_drop] at hlt
            rw [List.getElem?_take,if_pos (by omega),List.getElem?_drop] at hx
            rw [hget,if_pos (by omega)]
            exact hc.2.1 _ x hx
          · rw [hsz] at hj
            rw [hget,if_pos hj]
            exact hc.2.2 _ (by rw [hc.1];omega)
        · cases h
      | false =>
        simp only at h
        have hlt:=(List.getElem?_eq_some_iff.1 h).1
        have h5:=hc.2.1 off av h
        rw [Array.getD_eq_getD_getElem?,Array.getElem?_eq_getElem (by rw [hc.1];exact hlt),Option.getD_some] at h5
        have hagg:(isAgg t).run P w = .ok false w:=by
          unfold isAgg
          rw [Sem.run_bind,run_underlying hu w]
          cases d <;> simp_all
        exact ⟨_,by simp only [part,Sem.run_bind,hagg,Result.andThen_ok,Bool.false_eq_true,if_false,Array.getElem?_eq_getElem (show off < vs.size by rw [hc.1];exact hlt),Sem.run_pure],h5⟩
def fldTy (P:Program) (t:TypeId) (f:Nat):Option (Nat × Nat):=match P.underlying t with
  | some (.struct fs)=>(fs[f]?).map fun fd=>(fd.type,fd.offset)
  | _=>none
def apartF (P:Program) (s:ASt) (t:TypeId) (f:Nat) (x:Operand):Option AV:=match s.ev x,fldTy P t f with
  | .agg cs,some (ty,off)=>aloadC P ty cs off
  | _,_=>none
theorem op_fieldV (t:TypeId) (x:Operand) (f:Nat) (av:AV) (h:o.op = .field t x f) (hl:apartF P s t f x=some av):OpVal P ops o s av := .pure fun L loc a w hr=>by
  have hx:=hr.ev x (looks_mem (by simp [h,Op.operands]))
  unfold apartF at hl
  split at hl
  · rename_i cs ty off he hf
    rw [he] at hx
    generalize hv:a.eval x=v at hx
    cases hx with
    | agg _ vs h1 h2 h3 =>
    obtain ⟨u,hu,hav⟩:=run_part' (P:=P) ⟨h1,h2,h3⟩ hl
    unfold fldTy at hf
    split at hf
    · rename_i fs hun
      obtain ⟨fd,hfd,e⟩:=Option.map_eq_some_iff.1 hf
      cases e
      exact ⟨u,by simp only [execOp,h,hv,Instr.field,Sem.run_bind,run_underlying hun,Result.andThen_ok,hfd,asAgg,Sem.run_pure,hu],hav⟩
    · cases hf
  · cases hl
def elemA (P:Program) (t:TypeId):Option (Nat × Nat × Nat):=match P.underlying t with
  | some (.array n e)=>(tySz P e).map fun k=>(e,k,n)
  | _=>none
def apartI (P:Program) (s:ASt) (t:TypeId) (x i:Operand):Option AV:=match s.ev x,s.ev i,elemA P t with
  | .agg cs,.p (.val (.int _ n)),some (e,k,len)=>if 0≤n∧n < len then aloadC P e cs (n.toNat * k) else none
  | _,_,_=>none
theorem op_indexV (t:TypeId) (x i:Operand) (av:AV) (h:o.op = .index t x i) (hl:apartI P s t x i=some av):OpVal P ops o s av := .pure fun L loc a w hr=>by
  have hx:=hr.ev x (looks_mem (by simp [h,Op.operands]))
  have hi:=hr.ev i (looks_mem (by simp [h,Op.operands]))
  unfold apartI at hl
  split at hl
  · rename_i cs kd n e k len he hie hel
    rw [he] at hx
    rw [hie] at hi
    split at hl
    · rename_i hcond
      generalize hv:a.eval x=v at hx
      cases hx with
      | agg _ vs h1 h2 h3 =>
      obtain ⟨u,hu,hav⟩:=run_part' (P:=P) ⟨h1,h2,h3⟩ hl
      unfold elemA at hel
      split at hel
      · rename_i len' e' hun
        obtain ⟨k',hk,e⟩:=Option.map_eq_some_iff.1 hel
        cases e
        obtain ⟨ti,hti,htk⟩:=Option.map_eq_some_iff.1 hk
        exact ⟨u,by simp only [execOp,h,hv,hi.val,Instr.index,asIntOf,Sem.run_bind,run_underlying hun,Result.andThen_ok,Sem.run_pure,if_pos hcond,sizeOf,typeInfo,run_program,hti,htk,hu],hav⟩
      · cases hel
    · cases hl
  · cases hl
theorem op_makeS (t:TypeId) (x y:Operand) (k k' : IntKind) (e n bytes l:Nat) (zs:List Value) (h:o.op = .makeSlice t x y) (hx:s.ev x = .p (.val (.int k l))) (hy:s.ev y = .p (.val (.int k' l))) (ht:elemTyB P t=some (e,n,bytes)) (hz:tyZero P e=some zs)
    (hl:l≤maxLen) (hb:bytes * l ≤ 140737488355328) (hd : ∀ t,o.dst=some t→t < s.n):OpEff P o s ((s.add (.row e n (List.replicate l (zs.map .val)))).put o.dst (.own s.N)):=fun L loc a w hr=>by
  have h1:=hr.ev x (fun _ _=>trivial)
  have h2:=hr.ev y (fun _ _=>trivial)
  rw [hx] at h1
  rw [hy] at h2
  obtain ⟨i,z,hu,hi,hiz,hsz,hby,hzs,hn0⟩:=(elemTy_of ht).h
  obtain ⟨i',z',hi',hiz',hzc,hone⟩:=tyZero_spec hz
  rw [hi] at hi'
  cases hi'
  rw [hiz] at hiz'
  cases hiz'
  subst hsz
  have hml:maxLen=9223372036854775807:=rfl
  have hrun := run_make (P := P) w t e i z hu hi hiz k k' l l (by omega) (Int.le_refl _) (by rw [hby]; have : ((bytes * l : Nat) : Int) ≤ 281474976710656 := by omega
                                                                                             rwa [Int.natCast_mul] at this) (by omega)
  simp only [Int.toNat_natCast] at hrun
  have hb0:Blw w.heap.size w (w.alloc (.cells (madeCells z.cells (l * i.size)) e)):=(Blw.refl _ _).alloc (Nat.le_refl _) _
  have hu0 : ∀ b,blkOf (.slice (some ⟨w.heap.size,0,none⟩) l l)=some b→w.heap.size≤b:=fun b e=>by cases e;exact Nat.le_refl _
  have hzl:zs.length=i.size:=by rw [← hzc,← hzs];simp
  have hcell : ∀ j,j < l * i.size→(madeCells z.cells (l * i.size))[j]? = zs[j % i.size]?:=fun j hj=>by
    have hm:j % i.size < z.cells.size:=by rw [hzs];exact Nat.mod_lt _ hn0
    rw [madeCells,Array.getElem?_map,Array.getElem?_range,if_pos hj]
    simp only [Option.map_some]
    rw [hzs,getElem!_pos z.cells _ hm,← hzc,Array.getElem?_toList,Array.getElem?_eq_getElem hm]
  have ho:OR (s.N + 1) (Dm L (setLoc loc s.N (.slice (some ⟨w.heap.size,0,none⟩) l l))) (setLoc loc s.N (.slice (some ⟨w.heap.size,0,none⟩) l l)) (w.alloc (.cells (madeCells z.cells (l * i.size)) e)) (.slice (some ⟨w.heap.size,0,none⟩) l l) (.row e i.size (List.replicate l (zs.map .val))):=by
    refine ⟨(madeCells z.cells (l * i.size)).toList,⟨by simp [size_madeCells],.inr ⟨w.heap.size,l,_,by simp,Nat.zero_le _,heap_alloc_at' w _ _ rfl,by simp,hl,size_madeCells _ _,?_⟩⟩,fun r hr'=>?_,fun k r j x hk hx=>?_,fun v hv=>?_⟩
    · rw [List.length_replicate,List.take_of_length_le (by simp [size_madeCells])]
    · rw [(List.mem_replicate.1 hr').2,List.length_map,hzl]
    · rw [List.getElem?_replicate] at hk
      split at hk
      · rename_i hkl
        cases hk
        have hjl:=(List.getElem?_eq_some_iff.1 hx).1
        simp only [List.length_map,hzl] at hjl
        obtain ⟨v,hv,rfl⟩:=Option.map_eq_some_iff.1 (by simpa using hx:(zs[j]?).map PV.val=some x)
        have hlt:k * i.size + j < l * i.size:=by
          have:(k + 1) * i.size≤l * i.size:=Nat.mul_le_mul_right _ hkl
          rw [Nat.add_mul] at this
          omega
        refine ⟨v,?_,.val v (hone v (List.mem_of_getElem? hv))⟩
        rw [Array.getElem?_toList,hcell _ hlt,Nat.mul_comm,Nat.mul_add_mod,Nat.mod_eq_of_lt hjl,hv]
      · cases hk
    · obtain ⟨j,hj,rfl⟩:=List.mem_iff_getElem.1 hv
      simp only [Array.length_toList,size_madeCells] at hj
      have:=hcell j hj
      rw [← Array.getElem?_toList,List.getElem?_eq_getElem (by simpa [size_madeCells] using hj)] at this
      exact hone _ (List.mem_of_getElem? this.symm)
  unfold Oper.wp
  have he:(execOp a.eval o).run P w = .ok (.value (.slice (some ⟨w.heap.size,0,none⟩) l l)) (w.alloc (.cells (madeCells z.cells (l * i.size)) e)):=by
    simp only [execOp,h,h1.val,h2.val,Sem.run_bind,hrun,Result.andThen_ok,Sem.run_pure]
  rw [he]
  refine ⟨setLoc loc s.N (.slice (some ⟨w.heap.size,0,none⟩) l l),?_,.add hb0 _ _ hu0⟩
  refine (hr.add hb0 _ _ hu0 ho).put' hd (.own s.N _ (Nat.lt_succ_self _) rfl fun u hu=>?_)
  rw [setLoc_same] at hu;cases hu;rfl
theorem asplice_take {α:Type} {cs:List α} {off m:Nat} {xs:List α} (h:off + xs.length≤m) (hm:m≤cs.length):(asplice cs off xs).take m=asplice (cs.take m) off xs:=by
  apply List.ext_getElem?
  intro j
  rw [List.getElem?_take,asplice_get (by omega),asplice_get (by rw [List.length_take];omega),List.getElem?_take]
  by_cases h1:j < m
  · rw [if_pos h1,if_pos h1]
  · rw [if_neg h1,if_neg h1,if_neg (by omega)]
theorem op_storeR (t:TypeId) (x y:Operand) (tag n k off:Nat) (e:Nat) (rows:List (List PV)) (r:List PV) (ys:List AV) (ps:List PV) (h:o.op = .store t x y) (hx:s.ev x = .rptr tag n k off) (hlk:s.hp.lookup tag=some (.row e n rows)) (hr:rows[k]? = some r)
    (hy:acells (s.ev y)=some ys) (hp:pureL ys=some ps) (hsz:tySz P t=some ys.length) (hl:off + ys.length≤n) (hd:o.dst=none):OpEff P o s { s with hp:=setHp s.hp tag (.row e n (rows.set k (asplice r off ps))) }:=fun L loc a w hrel=>by
  have h1:=hrel.ev x (fun _ _=>trivial)
  have h2:=hrel.ev y (fun _ _=>trivial)
  rw [hx] at h1
  obtain ⟨_,u,hu,hor⟩:=hrel.hp.at' tag _ hlk
  obtain ⟨flat,hown,hrn,hfl,hone⟩:=hor
  obtain ⟨k1,k2,k3⟩:=acells_ok h2 hy
  have hkl:=(List.getElem?_eq_some_iff.1 hr).1
  have hrl:r.length=n:=hrn r (List.mem_of_getElem? hr)
  have hys:=pureL_spec hp
  have hpl:ps.length=ys.length:=by rw [hys];simp
  generalize hax:a.eval x=ax at h1
  cases h1 with
  | rptr _ _ _ _ _ _ _ hv =>
  have hown':=hown
  rcases hown.2 with ⟨_,h0⟩|⟨g,cap,cur,rfl,_,hg,hle,hmx,hcs,htk⟩
  · omega
  obtain rfl:=hv g _ _ hu
  have hfl0:flat.length=rows.length * n:=hown.1
  have hkn:k * n + n≤rows.length * n:=by
    have:(k + 1) * n≤rows.length * n:=Nat.mul_le_mul_right n hkl
    rwa [Nat.add_mul,Nat.one_mul] at this
  have hcn:rows.length * n≤cap * n:=Nat.mul_le_mul_right n hle
  have hrun:=run_storeAny (P:=P) (off:=k * n + off) (v:=a.eval y) hg (by rw [k1];exact hsz) (by rw [k1,hcs];omega) k3
  obtain ⟨arr',g1,g2,g3⟩:=setCells_row (a.eval y).cells.toList (k * n + off) w cur e (0,0) hg (by simp [k1,hcs];omega)
  have hk:Kp (fun k=>k=g) w (w.setCells g (k * n + off) (a.eval y).cells.toList):=setCells_kp (D:=fun k=>k=g) rfl _ _ _
  have hDb:Dm L loc g := .inr ⟨tag,_,hu,rfl⟩
  have hkd:Kp (Dm L loc) w (w.setCells g (k * n + off) (a.eval y).cells.toList):=setCells_kp hDb _ _ _
  unfold Oper.wp
  have he:(execOp a.eval o).run P w = .ok .skip (w.setCells g (k * n + off) (a.eval y).cells.toList):=by simp [execOp,h,hax,hrun]
  rw [he]
  simp only [Oper.upon,hd]
  refine ⟨loc,?_,.turn hu rfl hk⟩
  have hsl:(a.eval y).cells.toList.length=ys.length:=by simp [k1]
  refine hrel.turn hlk hu rfl hk ⟨asplice flat (k * n + off) (a.eval y).cells.toList,⟨?_,.inr ⟨g,cap,arr',?_,Nat.zero_le _,g1,?_,hmx,by rw [g3,hcs],?_⟩⟩,fun r' hr'=>?_,fun k' r' j z hk' hz=>?_,fun v hv=>?_⟩
  · rw [asplice_len (by rw [hsl,hfl0];omega),hfl0,List.length_set]
  · rw [List.length_set]
  · rw [List.length_set];exact hle
  · rw [List.length_set,g2,asplice_take (by rw [hsl];omega) (by simp [hcs];omega),htk]
  · rcases List.mem_or_eq_of_mem_set hr' with h5|h5
    · exact hrn r' h5
    · rw [h5,asplice_len (by omega),hrl]
  · rw [asplice_get (by rw [hsl,hfl0];omega),hsl]
    rw [List.getElem?_set] at hk'
    by_cases e1:k=k'
    · subst e1
      rw [if_pos rfl,if_pos hkl] at hk'
      cases hk'
      rw [asplice_get (by omega)] at hz
      by_cases hc:off≤j∧j < off + ps.length
      · rw [if_pos hc] at hz
        rw [if_pos (by omega)]
        have hz' : ys[j - off]? = some (.p z):=by rw [hys,List.getElem?_map,hz];rfl
        have h5:=k2 _ _ hz'
        have hlt:j - off < (a.eval y).cells.size:=by rw [k1];exact (List.getElem?_eq_some_iff.1 hz').1
        rw [Array.getD_eq_getD_getElem?,Array.getElem?_eq_getElem hlt,Option.getD_some] at h5
        refine ⟨(a.eval y).cells[j - off],?_,?_⟩
        · rw [show k * n + j - (k * n + off)=j - off by omega,Array.getElem?_toList];exact Array.getElem?_eq_getElem hlt
        · cases h5 with|p _ _ hp=>exact hp.mono hkd (fun _ _ h=>h)
      · rw [if_neg hc] at hz
        rw [if_neg (by omega)]
        obtain ⟨v,h5,h6⟩:=hfl k r j z hr hz
        exact ⟨v,h5,h6.mono hkd (fun _ _ h=>h)⟩
    · rw [if_neg e1] at hk'
      obtain ⟨v,h5,h6⟩:=hfl k' r' j z hk' hz
      have hjl:=(List.getElem?_eq_some_iff.1 hz).1
      rw [hrn r' (List.mem_of_getElem? hk')] at hjl
      have hne : ¬ (k * n + off≤k' * n + j∧k' * n + j < k * n + off + ys.length):=by
        rcases Nat.lt_or_gt_of_ne e1 with h7|h7
        · have:(k + 1) * n≤k' * n:=Nat.mul_le_mul_right n h7
          rw [Nat.add_mul] at this
          omega
        · have:(k' + 1) * n≤k * n:=Nat.mul_le_mul_right n h7
          rw [Nat.add_mul] at this
          omega
      rw [if_neg hne]
      exact ⟨v,h5,h6.mono hkd (fun _ _ h=>h)⟩
  · unfold asplice at hv
    rcases List.mem_append.1 hv with h5|h5
    · rcases List.mem_append.1 h5 with h6|h6
      · exact hone v (List.mem_of_mem_take h6)
      · obtain ⟨j,hj,rfl⟩:=List.mem_iff_getElem.1 h6
        have:=k3 j (by simpa using hj)
        rw [Array.getD_eq_getD_getElem?,Array.getElem?_eq_getElem (by simpa using hj),Option.getD_some] at this
        simpa using this
    · exact hone v (List.mem_of_mem_drop h5)
theorem op_storeA (t:TypeId) (x y:Operand) (tag k:Nat) (e:Nat) (cs:List AV) (y1:AV) (h:o.op = .store t x y) (hx:s.ev x = .rptr tag 1 k 0) (hlk:s.hp.lookup tag=some (.arow e cs)) (hkl:k < cs.length)
    (hy:acells (s.ev y)=some [y1]) (hsz:tySz P t=some 1) (hd:o.dst=none):OpEff P o s { s with hp:=setHp s.hp tag (.arow e (cs.set k y1)) }:=fun L loc a w hrel=>by
  have h1:=hrel.ev x (fun _ _=>trivial)
  have h2:=hrel.ev y (fun _ _=>trivial)
  rw [hx] at h1
  obtain ⟨_,u,hu,hor⟩:=hrel.hp.at' tag _ hlk
  obtain ⟨flat,hown,hfl,hone⟩:=hor
  obtain ⟨k1,k2,k3⟩:=acells_ok h2 hy
  simp only [List.length_cons,List.length_nil,Nat.zero_add] at k1
  generalize hax:a.eval x=ax at h1
  cases h1 with
  | rptr _ _ _ _ _ _ _ hv =>
  have hown':=hown
  rcases hown.2 with ⟨_,h0⟩|⟨g,cap,cur,rfl,_,hg,hle,hmx,hcs,htk⟩
  · omega
  obtain rfl:=hv g _ _ hu
  have hfl0:flat.length=cs.length:=by have:=hown.1;omega
  have hcn:cs.length≤cap:=hle
  have hrun:=run_storeAny (P:=P) (off:=k * 1 + 0) (v:=a.eval y) hg (by rw [k1];exact hsz) (by rw [k1,hcs];omega) k3
  obtain ⟨arr',g1,g2,g3⟩:=setCells_row (a.eval y).cells.toList (k * 1 + 0) w cur e (0,0) hg (by simp [k1,hcs];omega)
  have hk:Kp (fun k=>k=g) w (w.setCells g (k * 1 + 0) (a.eval y).cells.toList):=setCells_kp (D:=fun k=>k=g) rfl _ _ _
  have hDb:Dm L loc g := .inr ⟨tag,_,hu,rfl⟩
  have hkd:Kp (Dm L loc) w (w.setCells g (k * 1 + 0) (a.eval y).cells.toList):=setCells_kp hDb _ _ _
  unfold Oper.wp
  have he:(execOp a.eval o).run P w = .ok .skip (w.setCells g (k * 1 + 0) (a.eval y).cells.toList):=by simp [execOp,h,hax] at hrun ⊢;simp [hrun]
  rw [he]
  simp only [Oper.upon,hd]
  refine ⟨loc,?_,.turn hu rfl hk⟩
  have hsl:(a.eval y).cells.toList.length=1:=by simp [k1]
  refine hrel.turn hlk hu rfl hk ⟨asplice flat (k * 1 + 0) (a.eval y).cells.toList,⟨?_,.inr ⟨g,cap,arr',?_,Nat.zero_le _,g1,?_,hmx,by rw [g3,hcs],?_⟩⟩,fun j z hz=>?_,fun v hv=>?_⟩
  · rw [asplice_len (by rw [hsl,hfl0];omega),hfl0,List.length_set,Nat.mul_one]
  · rw [List.length_set]
  · rw [List.length_set];exact hle
  · rw [List.length_set,g2,asplice_take (by rw [hsl];omega) (by simp [hcs];omega),htk]
  · rw [asplice_get (by rw [hsl,hfl0];omega),hsl]
    rw [List.getElem?_set] at hz
    by_cases e1:k=j
    · subst e1
      rw [if_pos rfl,if_pos hkl] at hz
      cases hz
      rw [if_pos (by omega)]
      have h5:=k2 0 _ rfl
      have hlt : 0 < (a.eval y).cells.size:=by omega
      rw [Array.getD_eq_getD_getElem?,Array.getElem?_eq_getElem hlt,Option.getD_some] at h5
      refine ⟨(a.eval y).cells[0],?_,?_⟩
      · rw [show k - (k * 1 + 0)=0 by omega,Array.getElem?_toList];exact Array.getElem?_eq_getElem hlt
      · exact h5.mono (Nat.le_refl _) hkd (fun _ _ h=>h) (fun _ _ _ h=>h)
    · rw [if_neg e1] at hz
      rw [if_neg (by omega)]
      obtain ⟨v,h5,h6⟩:=hfl j z hz
      exact ⟨v,h5,h6.mono (Nat.le_refl _) hkd (fun _ _ h=>h) (fun _ _ _ h=>h)⟩
  · unfold asplice at hv
    rcases List.mem_append.1 hv with h5|h5
    · rcases List.mem_append.1 h5 with h6|h6
      · exact hone v (List.mem_of_mem_take h6)
      · obtain ⟨j,hj,rfl⟩:=List.mem_iff_getElem.1 h6
        have:=k3 j (by simpa using hj)
        rw [Array.getD_eq_getD_getElem?,Array.getElem?_eq_getElem (by simpa using hj),Option.getD_some] at this
        simpa using this
    · exact hone v (List.mem_of_mem_drop h5)
theorem op_clear (x:Operand) (t tag m:Nat) (e n bytes:Nat) (zs:List Value) (rows:List (List PV)) (h:o.op = .call { callee := .builtin .clear,args := #[x],argTypes := #[t] }) (hx:s.ev x = .suf tag n m) (hlk:s.hp.lookup tag=some (.row e n rows)) (ht:elemTyB P t=some (e,n,bytes)) (hz:tyZero P e=some zs)
    (hm:m < rows.length) (hd : ∀ t,o.dst=some t→t < s.n):OpEff P o s (ASt.put { s with hp:=setHp s.hp tag (.row e n (rows.take m ++ List.replicate (rows.length - m) (zs.map .val))) } o.dst (.tup [])):=fun L loc a w hrel=>by
  have h1:=hrel.ev x (fun _ _=>trivial)
  rw [hx] at h1
  obtain ⟨_,u,hu,hor⟩:=hrel.hp.at' tag _ hlk
  obtain ⟨flat,hown,hrn,hfl,hone⟩:=hor
  obtain ⟨i,z,hut,hi,hiz,hsz,hby,hzs,hn0⟩:=(elemTy_of ht).h
  obtain ⟨i',z',hi',hiz',hzc,hzone⟩:=tyZero_spec hz
  rw [hi] at hi'
  cases hi'
  rw [hiz] at hiz'
  cases hiz'
  have hzl:zs.length=n:=by rw [← hzc,← hzs];simp
  generalize hax:a.eval x=ax at h1
  cases h1 with
  | suf _ _ _ _ _ _ hv =>
  rcases hown.2 with ⟨_,h0⟩|⟨g,cap,cur,rfl,_,hg,hle,hmx,hcs,htk⟩
  · omega
  obtain rfl:=hv g _ _ hu
  have hfl0:flat.length=rows.length * n:=hown.1
  obtain ⟨q,hq⟩ : ∃ q,rows.length=m + (q + 1):=⟨rows.length - m - 1,by omega⟩
  have hzero : ∀ w:World,(zeroValue e).run P w = .ok z w:=fun w=>by simp [zeroValue,typeInfo,hi,hiz]
  have hcn:rows.length * n≤cap * n:=Nat.mul_le_mul_right n hle
  have hqn:rows.length * n=m * n + (q + 1) * n:=by rw [hq,Nat.add_mul]
  have hzcell : ∀ j,j < (q + 1) * n→(Builtin.zeroCells z.cells (q + 1))[j]? = zs[j % n]?:=fun j hj=>by
    have hmd:j % n < z.cells.size:=by rw [hzs];exact Nat.mod_lt _ hn0
    rw [Builtin.zeroCells,Array.getElem?_map,Array.getElem?_range,hzs,if_pos hj]
    simp only [Option.map_some]
    rw [getElem!_pos z.cells _ hmd,← hzc,Array.getElem?_toList,Array.getElem?_eq_getElem hmd]
  have hzsz:(Builtin.zeroCells z.cells (q + 1)).size=(q + 1) * n:=by simp [Builtin.zeroCells,hzs]
  have hz1 : ∀ v ∈ (Builtin.zeroCells z.cells (q + 1)).toList,v.oneCell' = true:=fun v hv=>by
    obtain ⟨j,hj,rfl⟩:=List.mem_iff_getElem.1 hv
    simp only [Array.length_toList,hzsz] at hj
    have:=hzcell j hj
    rw [← Array.getElem?_toList,List.getElem?_eq_getElem (by simpa [hzsz] using hj)] at this
    exact hzone _ (List.mem_of_getElem? this.symm)
  have hst:=run_storeCells_cells (P:=P) g (m * n) (Builtin.zeroCells z.cells (q + 1)).toList 0 w (fun j hj=>by
      simp only [Array.length_toList,hzsz] at hj
      rw [Nat.add_zero,row_cells hg,Array.getElem?_eq_getElem (by omega)];rfl) (fun j _=>by simp [World.frozen?,hg]) hz1
  simp only [Nat.add_zero] at hst
  have hlq:rows.length - m=q + 1:=by omega
  obtain ⟨arr',g1,g2,g3⟩:=setCells_row (Builtin.zeroCells z.cells (q + 1)).toList (m * n) w cur e (0,0) hg (by simp [hzsz,hcs];omega)
  have hk:Kp (fun k=>k=g) w (w.setCells g (m * n) (Builtin.zeroCells z.cells (q + 1)).toList):=setCells_kp (D:=fun k=>k=g) rfl _ _ _
  have hDb:Dm L loc g := .inr ⟨tag,_,hu,rfl⟩
  have hkd:Kp (Dm L loc) w (w.setCells g (m * n) (Builtin.zeroCells z.cells (q + 1)).toList):=setCells_kp hDb _ _ _
  have hrun:(Builtin.clear_ #[t] o.type #[.slice (some ⟨g,m * n,none⟩) (rows.length - m) (cap - m)]).run P w = .ok (.tuple #[]) (w.setCells g (m * n) (Builtin.zeroCells z.cells (q + 1)).toList):=by
    rw [hlq]
    simp [Builtin.clear_,run_underlying hut,hzero,hst]
  unfold Oper.wp
  have he:(execOp a.eval o).run P w = .ok (.value (.tuple #[])) (w.setCells g (m * n) (Builtin.zeroCells z.cells (q + 1)).toList):=by
    simp only [execOp,h,resolve,invoke,builtin,Sem.run_bind,Sem.run_pure,Result.andThen_ok,List.map_toArray,List.map_cons,List.map_nil,hax,hrun]
  rw [he]
  have hlt:(rows.take m ++ List.replicate (rows.length - m) (zs.map PV.val)).length=rows.length:=by simp;omega
  have hzlen:(Builtin.zeroCells z.cells (q + 1)).toList.length=(q + 1) * n:=by simp [hzsz]
  refine ⟨loc,Rel.put' (s := { s with hp:=setHp s.hp tag (.row e n (rows.take m ++ List.replicate (rows.length - m) (zs.map .val))) }) (hrel.turn hlk hu rfl hk ⟨asplice flat (m * n) (Builtin.zeroCells z.cells (q + 1)).toList,⟨?_,.inr ⟨g,cap,arr',?_,Nat.zero_le _,g1,?_,hmx,by rw [g3,hcs],?_⟩⟩,fun r' hr'=>?_,fun k' r' j zz hk' hzz=>?_,fun v hv=>?_⟩) hd (.tup [] #[] rfl (fun j x hx=>by simp at hx)),.turn hu rfl hk⟩
  · rw [asplice_len (by rw [hzlen,hfl0];omega),hfl0,hlt]
  · rw [hlt]
  · rw [hlt];exact hle
  · rw [hlt,g2,asplice_take (by rw [hzlen];omega) (by simp [hcs];omega),htk]
  · rcases List.mem_append.1 hr' with h5|h5
    · exact hrn r' (List.mem_of_mem_take h5)
    · rw [(List.mem_replicate.1 h5).2,List.length_map,hzl]
  · rw [asplice_get (by rw [hzlen,hfl0];omega),hzlen]
    have hmt:(rows.take m).length=m:=by rw [List.length_take];omega
    by_cases hkm:k' < m
    · rw [List.getElem?_append_left (by omega),List.getElem?_take,if_pos hkm] at hk'
      obtain ⟨v,h5,h6⟩:=hfl k' r' j zz hk' hzz
      have hjl:=(List.getElem?_eq_some_iff.1 hzz).1
      rw [hrn r' (List.mem_of_getElem? hk')] at hjl
      have:(k' + 1) * n≤m * n:=Nat.mul_le_mul_right n hkm
      rw [Nat.add_mul] at this
      rw [if_neg (by omega)]
      exact ⟨v,h5,h6.mono hkd (fun _ _ h=>h)⟩
    · rw [List.getElem?_append_right (by omega),List.getElem?_replicate] at hk'
      split at hk'
      · rename_i hkl
        cases hk'
        have hjl:=(List.getElem?_eq_some_iff.1 hzz).1
        simp only [List.length_map,hzl] at hjl
        obtain ⟨v,hv,rfl⟩:=Option.map_eq_some_iff.1 (by simpa using hzz:(zs[j]?).map PV.val=some zz)
        have hkk:k' * n=m * n + (k' - m) * n:=by rw [← Nat.add_mul];congr 1;omega
        have hlt2:(k' - m) * n + j < (q + 1) * n:=by
          have:((k' - m) + 1) * n≤(q + 1) * n:=Nat.mul_le_mul_right _ (by omega)
          rw [Nat.add_mul] at this
          omega
        refine ⟨v,?_,.val v (hzone v (List.mem_of_getElem? hv))⟩
        rw [if_pos (by omega),show k' * n + j - m * n=(k' - m) * n + j by omega,Array.getElem?_toList,hzcell _ hlt2,Nat.mul_comm,Nat.mul_add_mod,Nat.mod_eq_of_lt hjl,hv]
      · cases hk'
  · unfold asplice at hv
    rcases List.mem_append.1 hv with h5|h5
    · rcases List.mem_append.1 h5 with h6|h6
      · exact hone v (List.mem_of_mem_take h6)
      · exact hz1 v h6
    · exact hone v (List.mem_of_mem_drop h5)
theorem op_appendN (x y:Operand) (ty:Nat) (e n bytes:Nat) (ys:List (List PV)) (h:o.op = .call { callee := .builtin .append,args := #[x,y],argTypes := #[ty,ty] }) (hx:s.ev x = .p (.val (.slice none 0 0))) (ht:elemTyB P ty=some (e,n,bytes)) (hy:s.ev y = .p (.seq n ys))
    (h63:ys.length≤maxLen) (hbytes:ys.length * bytes ≤ 140737488355328) (hd : ∀ t,o.dst=some t→t < s.n):OpEff P o s ((s.add (.row e n ys)).put o.dst (.own s.N)):=fun L loc a w hr=>by
  have h1:=hr.ev x (fun _ _=>trivial)
  have h2:=hr.ev y (fun _ _=>trivial)
  rw [hx] at h1
  rw [hy] at h2
  have hax:=h1.val
  generalize hay:a.eval y=ay at h2
  cases h2 with
  | p _ _ hp =>
  obtain ⟨v',w',news,hrun,hown',hg,hat,hone2,hyn,hpr⟩:=run_append_seq (P:=P) (ty:=o.type) (elemTy_of ht) (World.ownsRow_nil w 0 e n) hp (by simpa using h63) (by simpa using hbytes)
  simp only [Nat.zero_add,List.nil_append] at hown'
  have hb:Blw w.heap.size w w':=⟨⟨hg.os,hg.tape,hg.output,hg.size,fun k hk=>hg.block k hk (by simp [Value.ownBlock])⟩,run_drawn hrun⟩
  have hv1:v'.oneCell' = true:=by rcases hown'.2 with ⟨rfl,_⟩|⟨g,c,cur,rfl,_⟩ <;> rfl
  have hu : ∀ b,blkOf v' = some b→w.heap.size≤b:=fun b hb'=>by
    have hb2:=own_blk hown' hb'
    rcases hat with e'|e'
    · rw [e'] at hb2;simp [Value.ownBlock] at hb2
    · rw [e'] at hb2;cases hb2;exact Nat.le_refl _
  unfold Oper.wp
  have he:(execOp a.eval o).run P w = .ok (.value v') w':=by simp only [execOp,h,resolve,invoke,builtin,Sem.run_bind,Sem.run_pure,Result.andThen_ok,List.map_toArray,List.map_cons,List.map_nil,hax,hay,hrun]
  rw [he]
  refine ⟨setLoc loc s.N v',?_,.add hb _ _ hu⟩
  refine (hr.add hb v' (.row e n ys) hu ⟨news,hown',hyn,fun k r j x hk hx=>?_,hone2⟩).put' hd (.own s.N _ (Nat.lt_succ_self _) hv1 fun z hz=>?_)
  · obtain ⟨v,h5,h6⟩:=hpr k r j x hk hx
    exact ⟨v,h5,h6.mono (.of_below hb) (fun k hk hd=>(dm_set hd).resolve_left fun e=>by have:=hu k e;omega)⟩
  · rw [setLoc_same] at hz;cases hz;rfl
theorem op_buildS0 (t:TypeId) (e n bytes:Nat) (h:o.op = .buildSlice t 0 #[]) (ht:elemTyB P t=some (e,n,bytes)) (hd : ∀ t,o.dst=some t→t < s.n):OpEff P o s ((s.add (.row e n [])).put o.dst (.own s.N)):=fun L loc a w hr=>by
  obtain ⟨i,z,hu,hi,hiz,hsz,hby,hzs,hn0⟩:=(elemTy_of ht).h
  have hnr : ∀ c:Array Value,(newRow e c).run P w = .ok ⟨w.heap.size,0,none⟩ (w.alloc (.cells c e)):=fun c=>by simp [newRow]
  have hrun:(Instr.buildSlice t 0 #[]).run P w = .ok (.slice (some ⟨w.heap.size,0,none⟩) 0 0) (w.alloc (.cells #[] e)):=by
    unfold Instr.buildSlice
    have h1:Instr.fill (fun i=>some (i * n,n)) ((Array.range (0 * n)).map fun j=>(#[] : Array Value)[j % (#[] : Array Value).size]!) (#[] : Array (Nat × Value)).toList=some #[]:=by
      simp [Instr.fill]
    have hm : ¬ (0 * n > 2 ^ 24):=by omega
    simp only [Sem.run_bind,run_underlying hu,Result.andThen_ok,sizeOf,typeInfo,run_program,hi,hsz,Sem.run_pure,if_neg hm,if_pos (Nat.zero_mul n),h1,hnr]
  have hb:Blw w.heap.size w (w.alloc (.cells #[] e)):=(Blw.refl _ _).alloc (Nat.le_refl _) _
  have hu0 : ∀ b,blkOf (.slice (some ⟨w.heap.size,0,none⟩) 0 0)=some b→w.heap.size≤b:=fun b e=>by cases e;exact Nat.le_refl _
  unfold Oper.wp
  have he:(execOp a.eval o).run P w = .ok (.value (.slice (some ⟨w.heap.size,0,none⟩) 0 0)) (w.alloc (.cells #[] e)):=by simp only [execOp,h,List.map_toArray,List.map_nil,Sem.run_bind,hrun,Result.andThen_ok,Sem.run_pure]
  rw [he]
  refine ⟨setLoc loc s.N (.slice (some ⟨w.heap.size,0,none⟩) 0 0),?_,.add hb _ _ hu0⟩
  refine (hr.add hb _ (.row e n []) hu0 ⟨[],⟨by simp,.inr ⟨w.heap.size,0,#[],rfl,Nat.zero_le _,heap_alloc_at' w _ _ rfl,Nat.le_refl _,by simp [maxLen],by simp,by simp⟩⟩,fun r h=>(by cases h),fun k r j x h=>(by simp at h),fun v h=>(by cases h)⟩).put' hd (.own s.N _ (Nat.lt_succ_self _) rfl fun z hz=>?_)
  rw [setLoc_same] at hz;cases hz;rfl
end
end Go.Proofs.Ytnckehomadnhoaa
namespace Go.Proofs.Ytnckehomadnhoaa
open Go.RowKit Go.Sort Go.Maps Go.ChangeMaps Go.MapKept Go.WideShapes
open Go.WideElems (Fit rd rg pl rd_key rd_val rg_of other_key)
set_option linter.unusedSimpArgs false
set_option linter.unusedVariables false
def OpEffG (P:Program) (o:Oper) (s:ASt) (K:ASt→Prop):Prop := ∀ L loc a w,Rel All L s loc a w→o.wp P a w (fun a' w' => ∃ s' loc',K s' ∧ Rel All L s' loc' a' w' ∧ Ext loc w loc' w') (fun _ _ _=>False)
theorem TL.effG {P:Program} {ops:Array Oper} {Q:Exit→ASt→Prop} {rest:List Oper} {o:Oper} {s:ASt} (hw:Wants ops o s) (h:OpEffG P o s (TL P ops Q rest)):TL P ops Q (o :: rest) s:=fun L loc a w hr=>by
  unfold wpList
  rw [hw.spec (hr.sub fun _ _=>trivial),if_pos rfl]
  refine .inl (oper_mono (fun a' w' ⟨s',loc',h0,h1,h2⟩=>?_) (fun _ _ _ h=>h.elim) (h L loc a w hr))
  exact wpList_mono (fun _ _ _ k=>k.ext h2) rest a' w' (h0 L loc' a' w' h1)
def pvals:List AV→Option (List Value)
  | []=>some []
  | .p (.val v) :: r=>(pvals r).map (v :: ·)
  | _=>none
def aval:AV→Option Value
  | .p (.val v)=>some v
  | .agg cs=>(pvals cs).map fun l => .agg l.toArray
  | _=>none
theorem pvals_spec {N:Nat} {D:Nat→Prop} {loc:Nat→Option Value} {w:World} : ∀ {cs:List AV} {l vs:List Value},pvals cs=some l→vs.length=cs.length→(∀ (j:Nat) x v,cs[j]? = some x→vs[j]? = some v→AR N D loc w x v)→vs=l
  | [],l,vs,h,hl,_=>by cases h;exact List.eq_nil_of_length_eq_zero hl
  | c :: cs,l,vs,h,hl,ha=>by
    cases vs with
    | nil=>cases hl
    | cons v vs =>
      cases c with
      | p x =>
        cases x with
        | val v' =>
          simp only [pvals] at h
          obtain ⟨l',h1,rfl⟩:=Option.map_eq_some_iff.1 h
          have e1:v=v':=(ha 0 _ v rfl rfl).val
          have e2:=pvals_spec (vs:=vs) h1 (by simpa using hl) fun j x u hx hu=>ha (j + 1) x u (by simpa using hx) (by simpa using hu)
          rw [e1,e2]
        | seq n rows=>simp [pvals] at h
      | _=>simp [pvals] at h
theorem AR.aval {N:Nat} {D:Nat→Prop} {loc:Nat→Option Value} {w:World} {x:AV} {u v:Value} (h:AR N D loc w x v) (hx:aval x=some u):v=u:=by
  unfold Go.Proofs.Ytnckehomadnhoaa.aval at hx
  split at hx
  · cases hx;exact h.val
  · rename_i cs
    obtain ⟨l,hl,rfl⟩:=Option.map_eq_some_iff.1 hx
    cases h with
    | agg _ vs hvl hva h1 =>
    have:=pvals_spec (vs:=vs.toList) hl (by simpa using hvl) fun j x v hx hv=>by
      have h5:=hva j x hx
      have h6:vs[j]? = some v:=by simpa using hv
      rw [Array.getD_eq_getD_getElem?,h6] at h5
      exact h5
    rw [← this]
  · cases hx
def mapTy (P:Program) (t:TypeId):Option (TypeId × TypeId × Value):=match P.underlying t with
  | some (.map k e)=>match (P.info? e).bind (·.zero) with
    | some z=>some (k,e,z)
    | none=>none
  | _=>none
theorem mapTy_of {P:Program} {t k e:TypeId} {z:Value} (h:mapTy P t=some (k,e,z)):P.underlying t=some (.map k e) ∧ ∀ w,(zeroValue e).run P w = .ok z w:=by
  unfold mapTy at h
  split at h
  · rename_i k' e' hu
    split at h
    · rename_i z' hz
      cases h
      obtain ⟨i,hi,hiz⟩:=Option.bind_eq_some_iff.1 hz
      exact ⟨hu,fun w=>by simp [zeroValue,typeInfo,hi,hiz]⟩
    · cases h
  · cases h
noncomputable def updF (f:Lit→Option Value) (kl:Lit) (x:Option Value):Lit→Option Value:=open Classical in fun l=>if l=kl then x else f l
theorem updF_same (f:Lit→Option Value) (kl:Lit) (x:Option Value):updF f kl x kl=x:=by simp [updF]
theorem updF_ne (f:Lit→Option Value) {kl l:Lit} (x:Option Value) (h:l ≠ kl):updF f kl x l=f l:=by simp [updF,h]
theorem MapOk.empty:MapOk (.map []) (fun _=>none):=fun kl _ z=>atKey_of_not_has rfl z
theorem MapOk.has {D:DataW Value} {f:Lit→Option Value} (h:MapOk D f) {kl:Lit} (hk:WideAt.IsKeyLit kl):Maps.has D kl=(f kl).isSome:=by
  have h1:=h kl hk
  cases hf:f kl with
  | none=>rw [hf] at h1;exact has_false_of_atKey h1
  | some v=>rw [hf] at h1;exact has_true_of_atKey h1
theorem MapOk.put {D:DataW Value} {f:Lit→Option Value} (h:MapOk D f) (hD:IsMap D) {kl:Lit} (hk:WideAt.IsKeyLit kl) (v:Value):MapOk (D.put kl (.held v)) (updF f kl (some v)):=fun l hl z=>by
  by_cases e:l=kl
  · subst e;rw [updF_same];exact atKey_put_same hD hk _ z
  · rw [updF_ne _ _ e,atKey_put_other e];exact h l hl z
theorem MapOk.del {D:DataW Value} {f:Lit→Option Value} (h:MapOk D f) (kl:Lit):MapOk (D.del kl) (updF f kl none):=fun l hl z=>by
  by_cases e:l=kl
  · subst e;rw [updF_same];exact atKey_del_same z
  · rw [updF_ne _ _ e,atKey_del_other e];exact h l hl z
section
variable {P:Program} {ops:Array Oper} {o:Oper} {s:ASt}
theorem op_makeMap (t k e:TypeId) (z:Value) (h:o.op = .makeMap t none) (ht:mapTy P t=some (k,e,z)) (hd : ∀ t,o.dst=some t→t < s.n):OpEff P o s ((s.add (.map none P k 0 fun _=>none)).put o.dst (.own s.N)):=fun L loc a w hr=>by
  have hb:Blw w.heap.size w (w.alloc (.map #[] 0)):=(Blw.refl _ _).alloc (Nat.le_refl _) _
  have hu : ∀ b,blkOf (.map (some w.heap.size))=some b→w.heap.size≤b:=fun b e=>by cases e;exact Nat.le_refl _
  unfold Oper.wp
  have he:(execOp a.eval o).run P w = .ok (.value (.map (some w.heap.size))) (w.alloc (.map #[] 0)):=by simp [execOp,h,run_makeMap]
  rw [he]
  refine ⟨setLoc loc s.N (.map (some w.heap.size)),?_,.add hb _ _ hu⟩
  refine (hr.add hb _ (.map none P k 0 fun _=>none) hu ⟨w.heap.size,.map [],rfl,World.ownsMap_made w P k heldR,MapOk.empty,fun p e=>by cases e⟩).put' hd (.own s.N _ (Nat.lt_succ_self _) rfl fun z hz=>?_)
  rw [setLoc_same] at hz;cases hz;rfl
theorem look_map {X:Nat→Prop} {L:Lim} {loc:Nat→Option Value} {a:Act} {w:World} (hr:Rel X L s loc a w) {x:Operand} (hX : ∀ t,x = .tmp t→X t) {tag:Nat} {ob:AO} (hx:s.ev x = .own tag) (hlk:s.hp.lookup tag=some ob):tag < s.N ∧ ∃ u,loc tag=some u∧a.eval x=u∧OR s.N (Dm L loc) loc w u ob:=by
  have h1:=hr.ev x hX
  rw [hx] at h1
  obtain ⟨htN,u,hu,hor⟩:=hr.hp.at' tag _ hlk
  generalize a.eval x=ax at h1
  cases h1 with
  | own _ _ _ _ hv=>exact ⟨htN,u,hu,hv u hu,hor⟩
theorem op_lookup (t:TypeId) (x i:Operand) (ok:Bool) (tag n:Nat) (pin:Option Nat) (k e:TypeId) (z key:Value) (kl:Lit) (f:Lit→Option Value) (h:o.op = .lookup t x i ok) (ht:mapTy P t=some (k,e,z)) (hx:s.ev x = .own tag) (hlk:s.hp.lookup tag=some (.map pin P k n f))
    (K:Keyed P k) (hi:aval (s.ev i)=some key) (hk:keyOf P k key=some kl):OpVal P ops o s (if ok then .tup [cv ((f kl).getD z),.p (.val (.bool (f kl).isSome))] else cv ((f kl).getD z)) := .pure fun L loc a w hr=>by
  obtain ⟨_,u,hu,hax,b,D,rfl,hown,hmk,_⟩:=look_map hr (looks_mem (by simp [h,Op.operands])) hx hlk
  have hiv:=(hr.ev i (looks_mem (by simp [h,Op.operands]))).aval hi
  obtain ⟨hty,hz⟩:=mapTy_of ht
  have hD:=hmk kl (K.key hk) (.held z)
  have hval : ∀ {v:Value} {ps:List MemPlace},heldR v=some (D.atKey kl (.held z),ps)→v=(f kl).getD z:=fun {v ps} hv=>by
    simp only [heldR,Option.some.injEq,Prod.mk.injEq] at hv
    rw [hD] at hv
    cases hf:f kl with
    | none=>rw [hf] at hv;simpa using hv.1
    | some y=>rw [hf] at hv;simpa using hv.1
  cases ok with
  | false =>
    obtain ⟨v,ps,hrun,hv⟩:=hown.lookup K hty (hz w) (zd := .held z) (zp := []) rfl hk
    obtain rfl:=hval hv
    exact ⟨_,by simp [execOp,h,hax,hiv,hrun],cv_ok _ _ _ _ _⟩
  | true =>
    obtain ⟨v,ps,hrun,hv⟩:=hown.look_ok K hty (hz w) (zd := .held z) (zp := []) rfl hk
    obtain rfl:=hval hv
    rw [hmk.has (K.key hk)] at hrun
    refine ⟨_,by simp [execOp,h,hax,hiv,hrun];rfl,.tup _ _ rfl fun j x hj=>?_⟩
    match j,hj with
    | 0,hj=>cases hj;exact cv_ok _ _ _ _ _
    | 1,hj=>cases hj;exact .of_val _ rfl
theorem turned_kp {w w' : World} {b:Nat} (h:w.mapTurned w' b) (hd:w.drawn≤w'.drawn):Kp (fun k=>k=b) w w' :=
  let g:=h.grown;⟨g.os,g.tape,g.output,g.size,fun k hk hn=>g.block k hk (fun e=>hn (by cases e;rfl)),hd⟩
theorem op_mapUpdate (t:TypeId) (x i y:Operand) (tag n:Nat) (pin:Option Nat) (k e:TypeId) (z key val:Value) (kl:Lit) (f:Lit→Option Value) (h:o.op = .mapUpdate t x i y) (ht:mapTy P t=some (k,e,z)) (hx:s.ev x = .own tag) (hlk:s.hp.lookup tag=some (.map pin P k n f))
    (K:Keyed P k) (hi:aval (s.ev i)=some key) (hk:keyOf P k key=some kl) (hy:aval (s.ev y)=some val) (hn:n < maxLen) (hd:o.dst=none):OpEff P o s { s with hp:=setHp s.hp tag (.map pin P k (n + 1) (updF f kl (some val))) }:=fun L loc a w hr=>by
  obtain ⟨_,u,hu,hax,b,D,rfl,hown,hmk,hpin⟩:=look_map hr (fun _ _=>trivial) hx hlk
  have hiv:=(hr.ev i (fun _ _=>trivial)).aval hi
  have hyv:=(hr.ev y (fun _ _=>trivial)).aval hy
  obtain ⟨hty,hz⟩:=mapTy_of ht
  obtain ⟨w',hrun,hown',htn⟩:=hown.store K hty hn (val:=val) (d := .held val) (ps := []) hk rfl
  unfold Oper.wp
  have he:(execOp a.eval o).run P w = .ok .skip w':=by simp [execOp,h,hax,hiv,hyv,hrun]
  rw [he]
  simp only [Oper.upon,hd]
  exact ⟨loc,hr.turn hlk hu rfl (turned_kp htn (run_drawn hrun)) ⟨b,_,rfl,hown',hmk.put hown.isMap (K.key hk) val,hpin⟩,.turn hu rfl (turned_kp htn (run_drawn hrun))⟩
theorem op_delete (t k' : TypeId) (x i:Operand) (tag n:Nat) (pin:Option Nat) (k e:TypeId) (z key:Value) (kl:Lit) (f:Lit→Option Value) (h:o.op = .call { callee := .builtin .delete,args := #[x,i],argTypes := #[t,k'] }) (hkk:k' = k) (ht:mapTy P t=some (k,e,z)) (hx:s.ev x = .own tag) (hlk:s.hp.lookup tag=some (.map pin P k n f))
    (K:Keyed P k) (hi:aval (s.ev i)=some key) (hk:keyOf P k key=some kl) (hd : ∀ t,o.dst=some t→t < s.n):OpEff P o s (ASt.put { s with hp:=setHp s.hp tag (.map pin P k n (updF f kl none)) } o.dst (.tup [])):=fun L loc a w hr=>by
  subst hkk
  obtain ⟨_,u,hu,hax,b,D,rfl,hown,hmk,hpin⟩:=look_map hr (fun _ _=>trivial) hx hlk
  have hiv:=(hr.ev i (fun _ _=>trivial)).aval hi
  obtain ⟨hty,hz⟩:=mapTy_of ht
  obtain ⟨w',hrun,hown',htn⟩:=hown.drop K hty hk o.type
  unfold Oper.wp
  have he:(execOp a.eval o).run P w = .ok (.value (.tuple #[])) w':=by
    simp only [execOp,h,resolve,invoke,builtin,Sem.run_bind,Sem.run_pure,Result.andThen_ok,List.map_toArray,List.map_cons,List.map_nil,hax,hiv,hrun]
  rw [he]
  refine ⟨loc,Rel.put' (s := { s with hp:=setHp s.hp tag (.map pin P k' n (updF f kl none)) }) (hr.turn hlk hu rfl (turned_kp htn (run_drawn hrun)) ⟨b,_,rfl,hown',hmk.del kl,hpin⟩) hd ?_,.turn hu rfl (turned_kp htn (run_drawn hrun))⟩
  exact .tup [] #[] rfl (fun j x hx=>by simp at hx)
noncomputable def updA (f:Lit→Option AV) (kl:Lit) (x:Option AV):Lit→Option AV:=open Classical in fun l=>if l=kl then x else f l
theorem updA_same (f:Lit→Option AV) (kl:Lit) (x:Option AV):updA f kl x kl=x:=by simp [updA]
theorem updA_ne (f:Lit→Option AV) {kl l:Lit} (x:Option AV) (h:l ≠ kl):updA f kl x l=f l:=by simp [updA,h]
theorem op_lookupA (t:TypeId) (x i:Operand) (ok:Bool) (tag n:Nat) (k e:TypeId) (z key:Value) (kl:Lit) (f:Lit→Option AV) (q:Option (Nat × Lit)) (h:o.op = .lookup t x i ok) (ht:mapTy P t=some (k,e,z)) (hx:s.ev x = .own tag) (hlk:s.hp.lookup tag=some (.amap P k n f q))
    (K:Keyed P k) (hi:aval (s.ev i)=some key) (hk:keyOf P k key=some kl):OpVal P ops o s (if ok then .tup [(f kl).getD (cv z),.p (.val (.bool (f kl).isSome))] else (f kl).getD (cv z)) := .pure fun L loc a w hr=>by
  obtain ⟨_,u,hu,hax,b,D,g,rfl,hown,hmk,hfg,_⟩:=look_map hr (looks_mem (by simp [h,Op.operands])) hx hlk
  have hiv:=(hr.ev i (looks_mem (by simp [h,Op.operands]))).aval hi
  obtain ⟨hty,hz⟩:=mapTy_of ht
  have hD:=hmk kl (K.key hk) (.held z)
  have hval : ∀ {v:Value} {ps:List MemPlace},heldR v=some (D.atKey kl (.held z),ps)→v=(g kl).getD z:=fun {v ps} hv=>by
    simp only [heldR,Option.some.injEq,Prod.mk.injEq] at hv
    rw [hD] at hv
    cases hf:g kl with
    | none=>rw [hf] at hv;simpa using hv.1
    | some y=>rw [hf] at hv;simpa using hv.1
  have hres:AR s.N (Dm L loc) loc w ((f kl).getD (cv z)) ((g kl).getD z)∧(g kl).isSome=(f kl).isSome:=by
    cases hf:f kl with
    | none=>rw [(hfg kl).2 hf];exact ⟨cv_ok _ _ _ _ _,rfl⟩
    | some y=>obtain ⟨v,h1,h2⟩:=(hfg kl).1 y hf;rw [h1];exact ⟨h2,rfl⟩
  cases ok with
  | false =>
    obtain ⟨v,ps,hrun,hv⟩:=hown.lookup K hty (hz w) (zd := .held z) (zp := []) rfl hk
    obtain rfl:=hval hv
    exact ⟨_,by simp [execOp,h,hax,hiv,hrun],hres.1⟩
  | true =>
    obtain ⟨v,ps,hrun,hv⟩:=hown.look_ok K hty (hz w) (zd := .held z) (zp := []) rfl hk
    obtain rfl:=hval hv
    rw [hmk.has (K.key hk)] at hrun
    refine ⟨_,by simp [execOp,h,hax,hiv,hrun];rfl,.tup _ _ rfl fun j x hj=>?_⟩
    match j,hj with
    | 0,hj=>cases hj;exact hres.1
    | 1,hj=>cases hj;rw [← hres.2];exact .of_val _ rfl
theorem op_mapUpdateA (t:TypeId) (x i y:Operand) (tag n:Nat) (k e:TypeId) (z key:Value) (kl:Lit) (f:Lit→Option AV) (q:Option (Nat × Lit)) (h:o.op = .mapUpdate t x i y) (ht:mapTy P t=some (k,e,z)) (hx:s.ev x = .own tag) (hlk:s.hp.lookup tag=some (.amap P k n f q))
    (K:Keyed P k) (hi:aval (s.ev i)=some key) (hk:keyOf P k key=some kl) (hn:n < maxLen) (hd:o.dst=none):OpEff P o s { s with hp:=setHp s.hp tag (.amap P k (n + 1) (updA f kl (some (s.ev y))) none) }:=fun L loc a w hr=>by
  obtain ⟨_,u,hu,hax,b,D,g,rfl,hown,hmk,hfg,_⟩:=look_map hr (fun _ _=>trivial) hx hlk
  have hiv:=(hr.ev i (fun _ _=>trivial)).aval hi
  have hyv:=hr.ev y (fun _ _=>trivial)
  obtain ⟨hty,hz⟩:=mapTy_of ht
  obtain ⟨w',hrun,hown',htn⟩:=hown.store K hty hn (val:=a.eval y) (d := .held (a.eval y)) (ps := []) hk rfl
  unfold Oper.wp
  have he:(execOp a.eval o).run P w = .ok .skip w':=by simp [execOp,h,hax,hiv,hrun]
  rw [he]
  simp only [Oper.upon,hd]
  have hkp:=turned_kp htn (run_drawn hrun)
  have hDb : ∀ k,(fun k=>k=b) k→Dm L loc k:=fun k e => .inr ⟨tag,_,hu,by rw [show k=b from e];rfl⟩
  have hmono : ∀ {x:AV} {v:Value},AR s.N (Dm L loc) loc w x v→AR s.N (Dm L loc) loc w' x v:=fun h=>h.mono (Nat.le_refl _) (hkp.wide hDb) (fun _ _ h=>h) (fun _ _ _ h=>h)
  refine ⟨loc,hr.turn hlk hu rfl hkp ⟨b,_,updF g kl (some (a.eval y)),rfl,hown',hmk.put hown.isMap (K.key hk) _,fun l=>⟨fun x hx=>?_,fun hx=>?_⟩,trivial⟩,.turn hu rfl hkp⟩
  · by_cases e:l=kl
    · subst e
      rw [updA_same] at hx
      cases hx
      exact ⟨_,updF_same _ _ _,hmono hyv⟩
    · rw [updA_ne _ _ e] at hx
      obtain ⟨v,h1,h2⟩:=(hfg l).1 x hx
      exact ⟨v,by rw [updF_ne _ _ e,h1],hmono h2⟩
  · by_cases e:l=kl
    · subst e;rw [updA_same] at hx;cases hx
    · rw [updA_ne _ _ e] at hx;rw [updF_ne _ _ e];exact (hfg l).2 hx
abbrev lefts (es:Array MapEntry) (seen:Array Nat):Array MapEntry:=leftOf es seen
def MapIs (P:Program) (k:TypeId) (n:Nat) (f:Lit→Option Value) (es:Array MapEntry) (ck:Nat):Prop :=
  Fit (H:=Value) P k heldR es ck∧es.size≤n∧MapOk (.map ((es.toList.map (rg P k heldR)).foldr DataW.insert [])) f
theorem MapIs.born {k:TypeId} {n:Nat} {f:Lit→Option Value} {es:Array MapEntry} {ck:Nat} (h:MapIs P k n f es ck) : ∀ x ∈ es.toList,x.born < ck:=h.1.stamped.1
theorem MapIs.entry {k:TypeId} {n:Nat} {f:Lit→Option Value} {es:Array MapEntry} {ck:Nat} (h:MapIs P k n f es ck) (K:Keyed P k) {e:MapEntry} (he:e ∈ es.toList) : ∃ kl,keyOf P k e.key=some kl∧f kl=some e.val:=by
  obtain ⟨F,hs,hm⟩:=h
  obtain ⟨y,hy⟩:=F.reads e he
  obtain ⟨z,hz,hzd⟩:=rd_val hy
  have hkey:=rd_key hy
  refine ⟨y.1,hkey,?_⟩
  have hrg:(rg P k heldR e).1=y.1:=by rw [rg_of hy]
  have hat : ∀ zd,DataW.atKey (.map ((es.toList.map (rg P k heldR)).foldr DataW.insert [])) y.1 zd=z.1:=fun zd=>by
    rw [(atKey_sorted (es.toList.map (rg P k heldR)) (Maps.fit_rising K F) y.1 (K.key hkey)).2 (rg P k heldR e) (List.mem_map.2 ⟨e,he,rfl⟩) hrg,rg_of hy,hzd]
  cases hz
  have h1:=hm y.1 (K.key hkey) (.held default)
  have h2:=hm y.1 (K.key hkey) .nil
  rw [hat] at h1 h2
  cases hf:f y.1 with
  | none=>rw [hf] at h2;cases h2
  | some v=>rw [hf] at h1;cases h1;rfl
theorem MapIs.mem {k:TypeId} {n:Nat} {f:Lit→Option Value} {es:Array MapEntry} {ck:Nat} (h:MapIs P k n f es ck) (K:Keyed P k) {kl:Lit} (hk:WideAt.IsKeyLit kl) {v:Value} (hf:f kl=some v) : ∃ e ∈ es.toList,keyOf P k e.key=some kl∧e.val=v:=by
  have hh:=h.2.2.has hk
  rw [hf] at hh
  obtain ⟨p,hp,hpk⟩:=List.any_eq_true.1 hh
  obtain ⟨x,hx,rfl⟩:=List.mem_map.1 (mem_sorted.1 hp)
  obtain ⟨y,hy⟩:=h.1.reads x hx
  have e1:(rg P k heldR x).1=kl:=WideAt.sameKey_eq hpk
  rw [rg_of hy] at e1
  have e2:=rd_key hy
  rw [e1] at e2
  obtain ⟨kl',h1,h2⟩:=h.entry K hx
  rw [e2] at h1
  cases h1
  rw [hf] at h2
  cases h2
  exact ⟨x,hx,e2,rfl⟩
theorem findIdx_one {l:List MapEntry} (hn:(l.map (·.born)).Nodup) {j:Nat} {e0:MapEntry} (h:l[j]? = some e0):l.findIdx? (fun e=>((e.born:Nat):Int) == ((e0.born:Nat):Int))=some j:=by
  rw [List.findIdx?_eq_some_iff_getElem]
  obtain ⟨hj,rfl⟩:=List.getElem?_eq_some_iff.1 h
  refine ⟨hj,by simp,fun i hi=>?_⟩
  simp only [beq_iff_eq,Int.natCast_inj,Bool.not_eq_true,beq_eq_false_iff_ne,ne_eq]
  intro e
  have a1:(l.map (·.born))[i]? = some l[j].born:=by rw [List.getElem?_map,List.getElem?_eq_getElem (by omega),← e];rfl
  have a2:(l.map (·.born))[j]? = some l[j].born:=by rw [List.getElem?_map,List.getElem?_eq_getElem hj];rfl
  have:=(List.getElem?_inj (List.getElem?_eq_some_iff.1 a1).1 hn).1 (a1.trans a2.symm)
  omega
theorem set_self0 {α:Type} (l:List α) (j:Nat) (a : α) (h:l[j]? = some a):l.set j a=l:=by
  apply List.ext_getElem?
  intro i
  rw [List.getElem?_set]
  split
  · rename_i e;subst e;rw [if_pos (List.getElem?_eq_some_iff.1 h).1,h]
  · rfl
theorem find_both {P:Program} {k:TypeId} (K:Keyed P k) {n:Nat} {g:Lit→Option Value} {es:Array MapEntry} {ck:Nat} (hm:MapIs P k n g es ck) (w:World) {key:Value} {kl:Lit} (hk:keyOf P k key=some kl) :
    ((Instr.findKey k key es.toList).run P w = .ok none w∧g kl=none) ∨ ∃ (j:Nat) (e:MapEntry),(Instr.findKey k key es.toList).run P w = .ok (some (j,e.val)) w∧es.toList[j]? = some e∧e.key=key∧g kl=some e.val:=by
  have hkeys : ∀ e ∈ es.toList,∃ l,keyOf P k e.key=some l:=fun e he=>let ⟨l,h,_⟩:=hm.entry K he;⟨l,h⟩
  rcases K.find w hk es.toList hkeys with ⟨h1,h2⟩|⟨j,e0,h1,h2,h3⟩
  · refine .inl ⟨h1,?_⟩
    cases hg:g kl with
    | none=>rfl
    | some v =>
      obtain ⟨e,he,h3,_⟩:=hm.mem K (K.key hk) hg
      exact absurd (K.inj h3 hk) (h2 e he)
  · refine .inr ⟨j,e0,h1,h2,h3,?_⟩
    obtain ⟨kl',h4,h5⟩:=hm.entry K (List.mem_of_getElem? h2)
    rw [h3,hk] at h4
    cases h4
    exact h5
theorem op_mapEntry (t:TypeId) (x i:Operand) (tag n:Nat) (k e:TypeId) (z key:Value) (kl:Lit) (f:Lit→Option AV) (q:Option (Nat × Lit)) {K0:ASt→Prop} (h:o.op = .mapEntry t x i) (ht:mapTy P t=some (k,e,z)) (hx:s.ev x = .own tag) (hlk:s.hp.lookup tag=some (.amap P k n f q))
    (K:Keyed P k) (hi:aval (s.ev i)=some key) (hk:keyOf P k key=some kl) (hn:n < maxLen) (hd : ∀ t,o.dst=some t→t < s.n)
    (hK0 : ∀ st:Nat,K0 (ASt.put { s with hp:=setHp s.hp tag (.amap P k (n + 1) (updA f kl (some ((f kl).getD (cv z)))) (some (st,kl))) } o.dst (.tup [(f kl).getD (cv z),.p (.val (.int .i64 (st:Int)))]))):OpEffG P o s K0:=fun L loc a w hr=>by
  obtain ⟨_,u,hu,hax,b,D,g,rfl,hown,hmk,hfg,_⟩:=look_map hr (fun _ _=>trivial) hx hlk
  have hiv:=(hr.ev i (fun _ _=>trivial)).aval hi
  obtain ⟨hty,hz⟩:=mapTy_of ht
  have hown0:=hown
  obtain ⟨es,ck,hb,F,hs,rfl⟩:=hown
  have hmi:MapIs P k n g es ck:=⟨F,hs,hmk⟩
  have key2 : ∃ (v0:Value) (st:Nat) (w' : World),v0=(g kl).getD z∧(Instr.mapEntry t (.map (some b)) key).run P w = .ok (.tuple #[v0,goInt st]) w' ∧ (Instr.mapUpdate t (.map (some b)) key v0).run P w = .ok () w' ∧
      ∃ es1 ck1 e1,w'.heap[b]? = some (.map es1 ck1)∧e1 ∈ es1.toList∧e1.born=st∧keyOf P k e1.key=some kl:=by
    rcases find_both K hmi w hk with ⟨h1,h2⟩|⟨j,e0,h1,h2,h3,h4⟩
    · refine ⟨z,ck,setBlock w b (.map (es.push ⟨key,z,ck⟩) (ck + 1)),by rw [h2];rfl,?_,?_,es.push ⟨key,z,ck⟩,ck + 1,⟨key,z,ck⟩,(heap_set hb).1,by simp,rfl,hk⟩
      · simp [Instr.mapEntry,run_underlying hty,MapKept.run_getObj_map hb,K.check w false hk,h1,hz,MapKept.run_setObj_map _ hb,Result.andThen,setBlock]
      · simp [Instr.mapUpdate,run_underlying hty,MapKept.run_getObj_map hb,K.check w false hk,h1,MapKept.run_setObj_map _ hb,Result.andThen,setBlock]
    · have hj:es[j]? = some e0:=by simpa using h2
      have hsame:es.modify j (fun e => { e with key:=key })=es:=by
        apply Array.ext'
        rw [Array.toList_modify,modify_eq_set _ _ _ _ h2]
        have:({ e0 with key:=key } : MapEntry)=e0:=by rw [← h3]
        rw [this]
        exact set_self0 _ _ _ h2
      have hsame2:es.modify j (fun e => { e with key:=key,val:=e0.val })=es:=by
        apply Array.ext'
        rw [Array.toList_modify,modify_eq_set _ _ _ _ h2]
        have:({ e0 with key:=key,val:=e0.val } : MapEntry)=e0:=by rw [← h3]
        rw [this]
        exact set_self0 _ _ _ h2
      refine ⟨e0.val,e0.born,setBlock w b (.map es ck),by rw [h4];rfl,?_,?_,es,ck,e0,(heap_set hb).1,List.mem_of_getElem? h2,rfl,by rw [h3];exact hk⟩
      · simp [Instr.mapEntry,run_underlying hty,MapKept.run_getObj_map hb,K.check w false hk,h1,hj,h3,K.stays w hk,hsame,MapKept.run_setObj_map _ hb,Result.andThen,setBlock]
      · simp [Instr.mapUpdate,run_underlying hty,MapKept.run_getObj_map hb,K.check w false hk,h1,hj,h3,K.stays w hk,hsame2,MapKept.run_setObj_map _ hb,Result.andThen,setBlock]
  obtain ⟨v0,st,w',hv0,hrun,hrunU,hpend⟩:=key2
  obtain ⟨w2,hrun2,hown',htn⟩:=hown0.store K hty hn (val:=v0) (d := .held v0) (ps := []) hk rfl
  rw [hrunU] at hrun2
  cases hrun2
  have hkp:=turned_kp htn (run_drawn hrun)
  have hDb : ∀ k,(fun k=>k=b) k→Dm L loc k:=fun k e => .inr ⟨tag,_,hu,by rw [show k=b from e];rfl⟩
  have hmono : ∀ {x:AV} {v:Value},AR s.N (Dm L loc) loc w x v→AR s.N (Dm L loc) loc w' x v:=fun h=>h.mono (Nat.le_refl _) (hkp.wide hDb) (fun _ _ h=>h) (fun _ _ _ h=>h)
  have hres:AR s.N (Dm L loc) loc w ((f kl).getD (cv z)) v0:=by
    rw [hv0]
    cases hf:f kl with
    | none=>rw [(hfg kl).2 hf];exact cv_ok _ _ _ _ _
    | some y=>obtain ⟨v,h1,h2⟩:=(hfg kl).1 y hf;rw [h1];exact h2
  unfold Oper.wp
  have he:(execOp a.eval o).run P w = .ok (.value (.tuple #[v0,goInt st])) w':=by simp [execOp,h,hax,hiv,hrun]
  rw [he]
  refine ⟨_,loc,hK0 st,Rel.put' (s := { s with hp:=setHp s.hp tag (.amap P k (n + 1) (updA f kl (some ((f kl).getD (cv z)))) (some (st,kl))) }) (hr.turn hlk hu rfl hkp ⟨b,_,updF g kl (some v0),rfl,hown',hmk.put hown0.isMap (K.key hk) _,fun l=>⟨fun x hx=>?_,fun hx=>?_⟩,hpend⟩) hd ?_,.turn hu rfl hkp⟩
  · by_cases e:l=kl
    · subst e
      rw [updA_same] at hx
      cases hx
      exact ⟨_,updF_same _ _ _,hmono hres⟩
    · rw [updA_ne _ _ e] at hx
      obtain ⟨v,h1,h2⟩:=(hfg l).1 x hx
      exact ⟨v,by rw [updF_ne _ _ e,h1],hmono h2⟩
  · by_cases e:l=kl
    · subst e;rw [updA_same] at hx;cases hx
    · rw [updA_ne _ _ e] at hx;rw [updF_ne _ _ e];exact (hfg l).2 hx
  · refine .tup _ _ rfl fun j x hj=>?_
    match j,hj with
    | 0,hj=>cases hj;exact hmono hres
    | 1,hj=>cases hj;exact .of_val _ rfl
theorem op_entryStore (t:TypeId) (x i y:Operand) (tag n st:Nat) (k e:TypeId) (z:Value) (kl:Lit) (f:Lit→Option AV) (h:o.op = .entryStore t x i y) (ht:mapTy P t=some (k,e,z)) (hx:s.ev x = .own tag) (hlk:s.hp.lookup tag=some (.amap P k n f (some (st,kl))))
    (K:Keyed P k) (hi:s.ev i = .p (.val (.int .i64 (st:Int)))) (hn:n < maxLen) (hd:o.dst=none):OpEff P o s { s with hp:=setHp s.hp tag (.amap P k (n + 1) (updA f kl (some (s.ev y))) none) }:=fun L loc a w hr=>by
  obtain ⟨_,u,hu,hax,b,D,g,rfl,hown,hmk,hfg,es',ck',e1,hb',he1,hborn,hkey⟩:=look_map hr (fun _ _=>trivial) hx hlk
  have hiv0:=hr.ev i (fun _ _=>trivial)
  rw [hi] at hiv0
  have hiv:=hiv0.val
  have hyv:=hr.ev y (fun _ _=>trivial)
  obtain ⟨hty,hz⟩:=mapTy_of ht
  obtain ⟨w',hrunU,hown',htn⟩:=hown.store K hty hn (val:=a.eval y) (d := .held (a.eval y)) (ps := []) hkey rfl
  obtain ⟨es,ck,hb,F,hs,rfl⟩:=hown
  obtain ⟨rfl,rfl⟩ : es=es' ∧ ck=ck':=by rw [hb] at hb';simpa using hb'
  have hmi:MapIs P k n g es ck:=⟨F,hs,hmk⟩
  obtain ⟨s1,s2,s3⟩:=F.stamped
  have hrun:(Instr.entryStore t (.map (some b)) (.int .i64 (st:Int)) (a.eval y)).run P w = .ok () w':=by
    rcases find_both K hmi w hkey with ⟨h1,h2⟩|⟨j,e0,h1,h2,h3,h4⟩
    · obtain ⟨kl',g1,g2⟩:=hmi.entry K he1
      rw [hkey] at g1;cases g1
      rw [h2] at g2;cases g2
    · have hj:es[j]? = some e0:=by simpa using h2
      have hbe:e0.born=st:=by
        have:e0=e1:=by
          obtain ⟨i1,hi1⟩:=List.mem_iff_getElem?.1 he1
          have a1:(es.toList.map (·.key))[j]? = some e1.key:=by rw [List.getElem?_map,h2,← h3];rfl
          have a2:(es.toList.map (·.key))[i1]? = some e1.key:=by rw [List.getElem?_map,hi1];rfl
          have:=(List.getElem?_inj (List.getElem?_eq_some_iff.1 a1).1 s3).1 (a1.trans a2.symm)
          subst this
          rw [h2] at hi1
          cases hi1;rfl
        rw [this];exact hborn
      have hidx:es.findIdx? (fun e=>((e.born:Nat):Int) == (st:Int))=some j:=by
        have:=findIdx_one s2 h2
        rw [hbe] at this
        rw [show es.findIdx? (fun e=>((e.born:Nat):Int) == (st:Int))=es.toList.findIdx? (fun e=>((e.born:Nat):Int) == (st:Int)) by cases es;simp]
        exact this
      have hmod:es.modify j (fun e => { e with val:=a.eval y })=es.modify j (fun e' => { e' with key:=e1.key,val:=a.eval y }):=by
        apply Array.ext'
        rw [Array.toList_modify,Array.toList_modify,modify_eq_set _ _ _ _ h2,modify_eq_set _ _ _ _ h2,← h3]
      have hU:(Instr.mapUpdate t (.map (some b)) e1.key (a.eval y)).run P w = .ok () (setBlock w b (.map (es.modify j (fun e' => { e' with key:=e1.key,val:=a.eval y })) ck)):=by
        simp [Instr.mapUpdate,run_underlying hty,MapKept.run_getObj_map hb,K.check w false hkey,h1,hj,h3,K.stays w hkey,MapKept.run_setObj_map _ hb,Result.andThen,setBlock]
      rw [hrunU] at hU
      cases hU
      simp [Instr.entryStore,MapKept.run_getObj_map hb,asInt,asIntOf,hidx,hmod,MapKept.run_setObj_map _ hb,Result.andThen,setBlock]
  unfold Oper.wp
  have he:(execOp a.eval o).run P w = .ok .skip w':=by simp [execOp,h,hax,hiv,hrun]
  rw [he]
  simp only [Oper.upon,hd]
  have hkp:=turned_kp htn (run_drawn hrunU)
  have hDb : ∀ k,(fun k=>k=b) k→Dm L loc k:=fun k e => .inr ⟨tag,_,hu,by rw [show k=b from e];rfl⟩
  have hmono : ∀ {x:AV} {v:Value},AR s.N (Dm L loc) loc w x v→AR s.N (Dm L loc) loc w' x v:=fun h=>h.mono (Nat.le_refl _) (hkp.wide hDb) (fun _ _ h=>h) (fun _ _ _ h=>h)
  refine ⟨loc,hr.turn hlk hu rfl hkp ⟨b,_,updF g kl (some (a.eval y)),rfl,hown',hmk.put ⟨_,rfl⟩ (K.key hkey) _,fun l=>⟨fun x hx=>?_,fun hx=>?_⟩,trivial⟩,.turn hu rfl hkp⟩
  · by_cases e:l=kl
    · subst e
      rw [updA_same] at hx
      cases hx
      exact ⟨_,updF_same _ _ _,hmono hyv⟩
    · rw [updA_ne _ _ e] at hx
      obtain ⟨v,h1,h2⟩:=(hfg l).1 x hx
      exact ⟨v,by rw [updF_ne _ _ e,h1],hmono h2⟩
  · by_cases e:l=kl
    · subst e;rw [updA_same] at hx;cases hx
    · rw [updA_ne _ _ e] at hx;rw [updF_ne _ _ e];exact (hfg l).2 hx
theorem op_range (t:TypeId) (x:Operand) (tag n:Nat) (pin:Option Nat) (k e:TypeId) (z:Value) (f:Lit→Option Value) {K:ASt→Prop} (h:o.op = .range t x) (ht:mapTy P t=some (k,e,z)) (hx:s.ev x = .own tag) (hlk:s.hp.lookup tag=some (.map pin P k n f)) (hd : ∀ t,o.dst=some t→t < s.n)
    (hK : ∀ b r es ck,MapIs P k n f es ck→K (ASt.put { s with hp:=(s.N,.raw (.pointer (some ⟨r,0,none⟩)) (.mapIter (some b) ck #[] ck)) :: setHp s.hp tag (.raw (.map (some b)) (.map es ck)),N:=s.N + 1 } o.dst (.own s.N))):OpEffG P o s K:=fun L loc a w hr=>by
  obtain ⟨_,u,hu,hax,b,D,rfl,⟨es,ck,hb,F,hs,rfl⟩,hmk,hpin⟩:=look_map hr (fun _ _=>trivial) hx hlk
  obtain ⟨hty,hz⟩:=mapTy_of ht
  have hrun:=run_range_map w t k e b es ck hty hb
  have hbl:Blw w.heap.size w (w.alloc (.mapIter (some b) ck #[] ck)):=(Blw.refl _ _).alloc (Nat.le_refl _) _
  have hup : ∀ c,blkOf (.pointer (some ⟨w.heap.size,0,none⟩))=some c→w.heap.size≤c:=fun c e=>by cases e;exact Nat.le_refl _
  unfold Oper.wp
  have he:(execOp a.eval o).run P w = .ok (.value (.pointer (some ⟨w.heap.size,0,none⟩))) (w.alloc (.mapIter (some b) ck #[] ck)):=by simp [execOp,h,hax,hrun]
  rw [he]
  have r1:Rel All L { s with hp:=setHp s.hp tag (.raw (.map (some b)) (.map es ck)) } loc a w:=hr.turn hlk hu rfl (Kp.refl _ _) ⟨b,rfl,rfl,hb⟩
  have r2:=r1.add hbl (.pointer (some ⟨w.heap.size,0,none⟩)) (.raw (.pointer (some ⟨w.heap.size,0,none⟩)) (.mapIter (some b) ck #[] ck)) hup ⟨w.heap.size,rfl,rfl,heap_alloc_at' w _ _ rfl⟩
  refine ⟨_,setLoc loc s.N (.pointer (some ⟨w.heap.size,0,none⟩)),hK b w.heap.size es ck ⟨F,hs,hmk⟩,r2.put' hd (.own s.N _ (Nat.lt_succ_self _) rfl fun z hz=>?_),.add hbl _ _ hup⟩
  rw [setLoc_same] at hz;cases hz;rfl
theorem kp_setBlock {w w1:World} (hw:w1=w∨w1=w.drew) (r:Nat) {ob0:Obj} (h0:w.heap[r]? = some ob0) (ob:Obj):Kp (fun k=>k=r) w (setBlock w1 r ob):=by
  have h2:=heap_set (o':=ob) h0
  rcases hw with rfl|rfl <;> exact ⟨rfl,rfl,rfl,by simp [setBlock],fun i _ hi=>h2.2 i hi,by first|exact Nat.le_refl _|exact Nat.le_succ _⟩
theorem op_next (x:Operand) (ti tm r b since c0:Nat) (seen:Array Nat) (es:Array MapEntry) (ck:Nat) {K:ASt→Prop} (h:o.op = .next x false) (hx:s.ev x = .own ti) (hlk:s.hp.lookup ti=some (.raw (.pointer (some ⟨r,0,none⟩)) (.mapIter (some b) since seen c0)))
    (hlm:s.hp.lookup tm=some (.raw (.map (some b)) (.map es ck))) (hold : ∀ x ∈ es.toList,x.born < since) (hsc:since≤c0) (hd : ∀ t,o.dst=some t→t < s.n)
    (hK0:(leftOf es seen).size=0→K (s.put o.dst (.tup [.p (.val (.bool false))])))
    (hK1 : ∀ e ∈ (leftOf es seen).toList,K (ASt.put { s with hp:=setHp s.hp ti (.raw (.pointer (some ⟨r,0,none⟩)) (.mapIter (some b) since (seen.push e.born) ck)) } o.dst (.tup [.p (.val (.bool true)),cv e.key,cv e.val]))):OpEffG P o s K:=fun L loc a w hr=>by
  obtain ⟨_,u,hu,hax,r',rfl,hr',hrb⟩:=look_map hr (fun _ _=>trivial) hx hlk
  cases hr'
  obtain ⟨_,um,hum,b',rfl,hb',hbb⟩:=hr.hp.at' tm _ hlm
  cases hb'
  unfold Oper.wp
  have he : ∀ v w',(Instr.next (.pointer (some ⟨r,0,none⟩)) false o.type).run P w = .ok v w' → (execOp a.eval o).run P w = .ok (.value v) w':=fun v w' hv=>by simp [execOp,h,hax,hv]
  rcases run_next_at (P:=P) w o.type r b since c0 seen es ck hrb hbb hold hsc with ⟨h0,hrun⟩|⟨e,hem,w1,hw1,hrun⟩
  · rw [he _ _ hrun]
    refine ⟨_,loc,hK0 h0,hr.put' hd (.tup _ _ rfl fun j x hj=>?_),Ext.refl _ _⟩
    match j,hj with
    | 0,hj=>cases hj;exact .of_val _ rfl
  · rw [he _ _ hrun]
    have hkp:=kp_setBlock hw1 r hrb (.mapIter (some b) since (seen.push e.born) ck)
    have hr1:w1.heap[r]? = some (.mapIter (some b) since seen c0):=by rcases hw1 with rfl|rfl <;> exact hrb
    refine ⟨_,loc,hK1 e hem,Rel.put' (s := { s with hp:=setHp s.hp ti (.raw (.pointer (some ⟨r,0,none⟩)) (.mapIter (some b) since (seen.push e.born) ck)) }) (hr.turn hlk hu rfl hkp ⟨r,rfl,rfl,(heap_set (o' := .mapIter (some b) since (seen.push e.born) ck) hr1).1⟩) hd (.tup _ _ rfl fun j x hj=>?_),.turn hu rfl hkp⟩
    match j,hj with
    | 0,hj=>cases hj;exact .of_val _ rfl
    | 1,hj=>cases hj;exact cv_ok _ _ _ _ _
    | 2,hj=>cases hj;exact cv_ok _ _ _ _ _
theorem op_entry (x:Operand) (ti tm r b since:Nat) (seen:Array Nat) (es:Array MapEntry) (ck:Nat) (e:MapEntry) (h:o.op = .entry x) (hx:s.ev x = .own ti) (hlk:s.hp.lookup ti=some (.raw (.pointer (some ⟨r,0,none⟩)) (.mapIter (some b) since (seen.push e.born) ck)))
    (hlm:s.hp.lookup tm=some (.raw (.map (some b)) (.map es ck))) (hem:e ∈ es.toList) (hn:(es.toList.map (·.born)).Nodup):OpVal P ops o s (.tup [cv e.key,cv e.val]) := .pure fun L loc a w hr=>by
  obtain ⟨_,u,hu,hax,r',rfl,hr',hrb⟩:=look_map hr (looks_mem (by simp [h,Op.operands])) hx hlk
  cases hr'
  obtain ⟨_,um,hum,b',rfl,hb',hbb⟩:=hr.hp.at' tm _ hlm
  cases hb'
  have hrun:=run_entry_at (P:=P) w r b since seen es ck e hrb hbb hem hn
  refine ⟨_,by simp [execOp,h,hax,hrun];rfl,.tup _ _ rfl fun j x hj=>?_⟩
  match j,hj with
  | 0,hj=>cases hj;exact cv_ok _ _ _ _ _
  | 1,hj=>cases hj;exact cv_ok _ _ _ _ _
end
end Go.Proofs.Ytnckehomadnhoaa
namespace Go.Proofs.Ytnckehomadnhoaa
open Go.RowKit Go.Sort
set_option linter.unusedSimpArgs false
set_option linter.unusedVariables false
theorem AO.sub_box (t:Nat) (y:AV) (pin:Option Nat) (ty:TypeId) (cs:List AV):AO.sub t y (.boxP pin ty cs) = .boxP pin ty (cs.map (AV.sub t y)):=rfl
theorem AO.sub_row (t:Nat) (y:AV) (e n:Nat) (rows:List (List PV)):AO.sub t y (.row e n rows) = .row e n rows:=rfl
theorem AO.sub_map (t:Nat) (y:AV) (pin:Option Nat) (P:Program) (k n:Nat) (f:Lit→Option Value):AO.sub t y (.map pin P k n f) = .map pin P k n f:=rfl
theorem AO.sub_raw (t:Nat) (y:AV) (u:Value) (ob:Obj):AO.sub t y (.raw u ob) = .raw u ob:=rfl
theorem AO.sub_lrec (t:Nat) (y:AV) (l:Nat) (sp:LSpec) (fr:List (Nat × AV)):AO.sub t y (.lrec l sp fr) = .lrec l sp (fr.map fun p=>(p.1,AV.sub t y p.2)):=rfl
theorem AO.sub_arow (t:Nat) (y:AV) (e:Nat) (cs:List AV):AO.sub t y (.arow e cs) = .arow e (cs.map (AV.sub t y)):=rfl
theorem AO.sub_amap (t:Nat) (y:AV) (P:Program) (k n:Nat) (f:Lit→Option AV) (q:Option (Nat × Lit)):AO.sub t y (.amap P k n f q) = .amap P k n (fun l=>(f l).map (AV.sub t y)) q:=rfl
theorem AO.okB_arow (n e:Nat) (cs:List AV):AO.okB n (.arow e cs)=cs.all (AV.okB n):=rfl
theorem AO.okB_amap (n:Nat) (P:Program) (k m:Nat) (f:Lit→Option AV) (q:Option (Nat × Lit)) (h : ∀ l x,f l=some x→x.okB n=true):AO.okB n (.amap P k m f q)=true:=by
  simp only [AO.okB,decide_eq_true_eq];exact h
theorem AO.okB_box (n:Nat) (pin:Option Nat) (ty:TypeId) (cs:List AV):AO.okB n (.boxP pin ty cs)=cs.all (AV.okB n):=rfl
theorem AO.okB_row (n e m:Nat) (rows:List (List PV)):AO.okB n (.row e m rows)=true:=rfl
theorem AO.okB_map (n:Nat) (pin:Option Nat) (P:Program) (k m:Nat) (f:Lit→Option Value):AO.okB n (.map pin P k m f)=true:=rfl
theorem AO.okB_raw (n:Nat) (u:Value) (ob:Obj):AO.okB n (.raw u ob)=true:=rfl
theorem AO.okB_lrec (n l:Nat) (sp:LSpec) (fr:List (Nat × AV)):AO.okB n (.lrec l sp fr)=fr.all fun p=>AV.okB n p.2:=rfl
def AO.handle:AO→Option Value
  | .boxP (some b) _ _=>some (.pointer (some ⟨b,0,none⟩))
  | .map (some b) _ _ _ _=>some (.map (some b))
  | .raw u _=>some u
  | .lrec l _ _=>some (.func (.yield l) #[] #[])
  | _=>none
theorem OR.handle {N:Nat} {D:Nat→Prop} {loc:Nat→Option Value} {w:World} {u v:Value} {o:AO} (h:OR N D loc w u o) (hv:o.handle=some v):u=v:=by
  cases o with
  | boxP pin ty cs =>
    obtain ⟨b,arr,rfl,_,_,_,_,hp⟩:=h
    cases pin with
    | none=>cases hv
    | some p=>cases hv;rw [hp p rfl]
  | map pin P k n f =>
    obtain ⟨b,D,rfl,_,_,hp⟩:=h
    cases pin with
    | none=>cases hv
    | some p=>cases hv;rw [hp p rfl]
  | raw v' ob=>obtain ⟨b,rfl,_⟩:=h;cases hv;rfl
  | amap P k n f q=>cases hv
  | arow e cs=>cases hv
  | lrec l sp fr=>obtain ⟨rfl,_⟩:=h;cases hv;rfl
  | row e n rows=>cases hv
def Kept (hp hp' : Hp) (t:Nat):Prop:=match hp.lookup t,hp'.lookup t with
  | some o,some o'=>o.handle.isSome=true∧o.handle=o'.handle
  | _,_=>False
theorem Kept.spec {hp hp' : Hp} {t:Nat} (h:Kept hp hp' t) : ∃ o o' v,hp.lookup t=some o∧hp'.lookup t=some o' ∧ o.handle=some v∧o'.handle=some v:=by
  unfold Kept at h
  split at h
  · rename_i o o' h1 h2
    obtain ⟨v,hv⟩:=Option.isSome_iff_exists.1 h.1
    exact ⟨o,o',v,h1,h2,hv,h.2 ▸ hv⟩
  · exact h.elim
def AV.keep (n:Nat) (ks:List Nat):AV→AV
  | .own t=>if n≤t∨t ∈ ks then .own t else .junk
  | .ptr t k=>if n≤t∨t ∈ ks then .ptr t k else .junk
  | .rptr t m k j=>if n≤t∨t ∈ ks then .rptr t m k j else .junk
  | .pre t m=>if n≤t∨t ∈ ks then .pre t m else .junk
  | .suf t k m=>if n≤t∨t ∈ ks then .suf t k m else .junk
  | .fn f cs => .fn f (cs.attach.map fun ⟨c,_⟩=>AV.keep n ks c)
  | .agg cs => .agg (cs.attach.map fun ⟨c,_⟩=>AV.keep n ks c)
  | .tup cs => .tup (cs.attach.map fun ⟨c,_⟩=>AV.keep n ks c)
  | x=>x
theorem AV.keep_own (n:Nat) (ks:List Nat) (t:Nat):AV.keep n ks (.own t)=if n≤t∨t ∈ ks then .own t else .junk:=by simp [AV.keep]
theorem AV.keep_ptr (n:Nat) (ks:List Nat) (t k:Nat):AV.keep n ks (.ptr t k)=if n≤t∨t ∈ ks then .ptr t k else .junk:=by simp [AV.keep]
theorem AV.keep_rptr (n:Nat) (ks:List Nat) (t m k j:Nat):AV.keep n ks (.rptr t m k j)=if n≤t∨t ∈ ks then .rptr t m k j else .junk:=by simp [AV.keep]
theorem AV.keep_suf (n:Nat) (ks:List Nat) (t k m:Nat):AV.keep n ks (.suf t k m)=if n≤t∨t ∈ ks then .suf t k m else .junk:=by simp [AV.keep]
theorem AV.keep_pre (n:Nat) (ks:List Nat) (t m:Nat):AV.keep n ks (.pre t m)=if n≤t∨t ∈ ks then .pre t m else .junk:=by simp [AV.keep]
theorem AV.keep_fn (n:Nat) (ks:List Nat) (f:Fn) (cs:List AV):AV.keep n ks (.fn f cs) = .fn f (cs.map (AV.keep n ks)):=by simp [AV.keep]
theorem AV.keep_agg (n:Nat) (ks:List Nat) (cs:List AV):AV.keep n ks (.agg cs) = .agg (cs.map (AV.keep n ks)):=by simp [AV.keep]
theorem AV.keep_tup (n:Nat) (ks:List Nat) (cs:List AV):AV.keep n ks (.tup cs) = .tup (cs.map (AV.keep n ks)):=by simp [AV.keep]
theorem AV.keep_p (n:Nat) (ks:List Nat) (x:PV):AV.keep n ks (.p x) = .p x:=by simp [AV.keep]
theorem AV.keep_elt (n:Nat) (ks:List Nat) (r:List PV) (k:Nat):AV.keep n ks (.elt r k) = .elt r k:=by simp [AV.keep]
theorem AV.keep_cap0 (n:Nat) (ks:List Nat):AV.keep n ks .cap0 = .cap0:=by simp [AV.keep]
theorem AV.keep_junk (n:Nat) (ks:List Nat):AV.keep n ks .junk = .junk:=by simp [AV.keep]
theorem AR.keep {n:Nat} {ks:List Nat} {N N' : Nat} {D D' : Nat→Prop} {loc loc' : Nat→Option Value} {w w' : World} {x:AV} {v:Value} (h:AR N D loc w x v) (hN:N≤N') (hk:Kp D w w') (hD : ∀ k,k < w.heap.size→D' k→D k)
    (hl : ∀ t u,t < N→(n≤t∨t ∈ ks)→loc' t=some u→loc t=some u):AR N' D' loc' w' (AV.keep n ks x) v:=by
  induction h with
  | p x v h=>rw [AV.keep_p];exact .p x v (h.mono hk hD)
  | elt row off b o f hb hnD hc hr=>rw [AV.keep_elt];exact .elt row off b o f (Nat.lt_of_lt_of_le hb hk.size) (fun h=>hnD (hD _ hb h)) (fun j x h1=>(hk.cell hb hnD).trans (hc j x h1)) (fun j x h1=>(hr j x h1).mono hk hD)
  | ptr t off v ht h1 h =>
    rw [AV.keep_ptr]
    split
    · rename_i e;exact .ptr t off v (Nat.lt_of_lt_of_le ht hN) h1 fun b hb=>h b (hl t _ ht e hb)
    · exact .junk _
  | rptr t m k j v ht h1 h =>
    rw [AV.keep_rptr]
    split
    · rename_i e;exact .rptr t m k j v (Nat.lt_of_lt_of_le ht hN) h1 fun b l c hb=>h b l c (hl t _ ht e hb)
    · exact .junk _
  | own t v ht h1 h =>
    rw [AV.keep_own]
    split
    · rename_i e;exact .own t v (Nat.lt_of_lt_of_le ht hN) h1 fun u hu=>h u (hl t u ht e hu)
    · exact .junk _
  | pre t m v ht h1 h =>
    rw [AV.keep_pre]
    split
    · rename_i e;exact .pre t m v (Nat.lt_of_lt_of_le ht hN) h1 fun b l c hb=>h b l c (hl t _ ht e hb)
    · exact .junk _
  | suf t k m v ht h1 h =>
    rw [AV.keep_suf]
    split
    · rename_i e;exact .suf t k m v (Nat.lt_of_lt_of_le ht hN) h1 fun b l c hb=>h b l c (hl t _ ht e hb)
    · exact .junk _
  | fn f caps vs hlen _ ih =>
    rw [AV.keep_fn]
    refine .fn f _ vs (by simpa using hlen) fun j x hx=>?_
    simp only [List.getElem?_map,Option.map_eq_some_iff] at hx
    obtain ⟨c,hc,rfl⟩:=hx
    exact ih j c hc
  | agg cs vs hlen _ h1 ih =>
    rw [AV.keep_agg]
    refine .agg _ vs (by simpa using hlen) (fun j x hx=>?_) h1
    simp only [List.getElem?_map,Option.map_eq_some_iff] at hx
    obtain ⟨c,hc,rfl⟩:=hx
    exact ih j c hc
  | tup cs vs hlen _ ih =>
    rw [AV.keep_tup]
    refine .tup _ vs (by simpa using hlen) fun j x hx=>?_
    simp only [List.getElem?_map,Option.map_eq_some_iff] at hx
    obtain ⟨c,hc,rfl⟩:=hx
    exact ih j c hc
  | cap0 a h=>rw [AV.keep_cap0];exact .cap0 a fun x hx=>⟨Nat.lt_of_lt_of_le (h x hx).1 hk.size,fun hd=>(h x hx).2.1 (hD _ (h x hx).1 hd),(h x hx).2.2⟩
  | junk v=>rw [AV.keep_junk];exact .junk v
def AO.keep (n:Nat) (ks:List Nat):AO→AO
  | .boxP pin ty cs => .boxP pin ty (cs.map (AV.keep n ks))
  | .row e m rows => .row e m rows
  | .map pin P k m f => .map pin P k m f
  | .raw u ob => .raw u ob
  | .lrec l sp fr => .lrec l sp (fr.map fun p=>(p.1,AV.keep n ks p.2))
  | .amap P k m f q => .amap P k m (fun l=>(f l).map (AV.keep n ks)) q
  | .arow e cs => .arow e (cs.map (AV.keep n ks))
theorem OR.keep {n:Nat} {ks:List Nat} {N N' : Nat} {D D' : Nat→Prop} {loc loc' : Nat→Option Value} {w w' : World} {u:Value} {o:AO} (h:OR N D loc w u o) (hN:N≤N') (hk:Kp D w w') (hD : ∀ k,k < w.heap.size→D' k→D k)
    (hl : ∀ t u,t < N→(n≤t∨t ∈ ks)→loc' t=some u→loc t=some u) (hb : ∀ b,blkOf u=some b→w'.heap[b]? = w.heap[b]?):OR N' D' loc' w' u (o.keep n ks):=by
  cases o with
  | map pin P k n f =>
    obtain ⟨b,D,rfl,⟨es,ck,h1,h2⟩,h3⟩:=h
    exact ⟨b,D,rfl,⟨es,ck,(hb b rfl).trans h1,h2⟩,h3⟩
  | amap P k n f q =>
    obtain ⟨b,DD,g,rfl,⟨es,ck,h1,h2⟩,h3,h4,h5⟩:=h
    refine ⟨b,DD,g,rfl,⟨es,ck,(hb b rfl).trans h1,h2⟩,h3,fun kl=>⟨fun x hx=>?_,fun hx=>(h4 kl).2 (by simpa using hx)⟩,h5.mono (hb b rfl)⟩
    obtain ⟨x',hx',rfl⟩:=Option.map_eq_some_iff.1 hx
    obtain ⟨v,k1,k2⟩:=(h4 kl).1 x' hx'
    exact ⟨v,k1,k2.keep hN hk hD hl⟩
  | arow e cs =>
    obtain ⟨flat,h1,h3,h4⟩:=h
    refine ⟨flat,by rw [List.length_map];exact own_of_block h1 fun g hg=>hb g (by
      cases u <;> simp [Value.ownBlock] at hg
      rename_i ad _ _
      cases ad <;> simp at hg
      simp [blkOf,hg]),fun j x hx=>?_,h4⟩
    simp only [List.getElem?_map,Option.map_eq_some_iff] at hx
    obtain ⟨c,hc,rfl⟩:=hx
    obtain ⟨v,h5,h6⟩:=h3 j c hc
    exact ⟨v,h5,h6.keep hN hk hD hl⟩
  | raw v ob =>
    obtain ⟨b,rfl,h1,h2⟩:=h
    exact ⟨b,rfl,h1,(hb b h1).trans h2⟩
  | lrec l sp fr =>
    obtain ⟨rfl,tmps,h1,h2,h3⟩:=h
    refine ⟨rfl,tmps,(hb l rfl).trans h1,h2,fun t=>?_⟩
    rw [lookup_map]
    have h4:=h3 t
    cases hf:fr.lookup t with
    | none=>exact .junk _
    | some x=>rw [hf] at h4;exact h4.keep hN hk hD hl
  | boxP pin ty cs =>
    obtain ⟨b,arr,rfl,h1,h2,h3,h4⟩:=h
    refine ⟨b,arr,rfl,(hb b rfl).trans h1,by simpa [AO.keep] using h2,fun j x hx=>?_,h4⟩
    simp only [List.getElem?_map,Option.map_eq_some_iff] at hx
    obtain ⟨c,hc,rfl⟩:=hx
    exact (h3 j c hc).keep hN hk hD hl
  | row e n rows =>
    obtain ⟨flat,h1,h2,h3,h4⟩:=h
    refine ⟨flat,own_of_block h1 fun g hg=>hb g (blk_own hg),h2,fun k r j x hr hx=>?_,h4⟩
    obtain ⟨v,h5,h6⟩:=h3 k r j x hr hx
    exact ⟨v,h5,h6.mono hk hD⟩
def MemC (P:Program) (f:FuncId) (n:Nat) (hp:Hp) (xs:List AV) (Q:Hp→AV→Prop):Prop := ∀ L loc w vs,HRel L n hp loc w→ARs n (Dm L loc) loc w xs vs →
  Calls P f vs.toArray w fun e w' => ∃ v loc' hp' r,e = .returned v∧Q hp' r∧HRel L n hp' loc' w' ∧ AR n (Dm L loc') loc' w' r v∧Ext loc w loc' w'
def ASt.callM (s:ASt) (n:Nat) (ks:List Nat) (hp' : Hp):ASt := { s with fr:=s.fr.map fun p=>(p.1,p.2.keep n ks),hp:=hp' ++ (s.hp.filter fun p=>decide (n≤p.1)).map fun p=>(p.1,p.2.keep n ks) }
theorem ASt.get_callM (s:ASt) (n:Nat) (ks:List Nat) (hp' : Hp) (t:Nat):(s.callM n ks hp').get t=(s.get t).keep n ks:=by
  simp only [ASt.get,ASt.callM,lookup_map]
  cases s.fr.lookup t <;> simp [AV.keep_junk]
def Passes (s:ASt) (n:Nat) (hp:Hp):Prop:=n≤s.N∧(∀ p ∈ hp,s.hp.lookup p.1=some p.2∧p.1 < n∧p.2.okB n=true) ∧ ∀ p ∈ s.hp,p.1 < n→(hp.lookup p.1).isSome=true
theorem lookup_apd {α:Type} (a b:List (Nat × α)) (t:Nat):(a ++ b).lookup t=(a.lookup t).or (b.lookup t):=by
  induction a with
  | nil=>simp
  | cons p r ih =>
    obtain ⟨j,x⟩:=p
    rw [List.cons_append]
    by_cases e:t=j
    · subst e;rw [lookup_cons_eq,lookup_cons_eq];rfl
    · rw [lookup_cons_ne e,lookup_cons_ne e,ih]
theorem lookup_ge {α:Type} (l:List (Nat × α)) (n t:Nat):(l.filter fun p=>decide (n≤p.1)).lookup t=if n≤t then l.lookup t else none:=by
  induction l with
  | nil=>simp
  | cons p r ih =>
    obtain ⟨j,x⟩:=p
    by_cases e:t=j
    · subst e
      by_cases h:n≤t
      · rw [List.filter_cons,if_pos (by simpa using h),lookup_cons_eq,if_pos h,lookup_cons_eq]
      · rw [List.filter_cons,if_neg (by simpa using h),ih,if_neg h,if_neg h]
    · rw [lookup_cons_ne e,← ih,List.filter_cons]
      split
      · rw [lookup_cons_ne e]
      · rfl
theorem mem_of_look {α:Type} {l:List (Nat × α)} {t:Nat} {x : α} (h:l.lookup t=some x):(t,x) ∈ l:=by
  induction l with
  | nil=>cases h
  | cons p r ih =>
    obtain ⟨j,y⟩:=p
    by_cases e:t=j
    · subst e;rw [lookup_cons_eq] at h;cases h;exact List.mem_cons.2 (.inl rfl)
    · rw [lookup_cons_ne e] at h;exact List.mem_cons.2 (.inr (ih h))
theorem mem_call {L:Lim} {s:ASt} {loc:Nat→Option Value} {a:Act} {w:World} (hr:Rel All L s loc a w) {n:Nat} {hp:Hp} (hps:Passes s n hp) (ks:List Nat) :
    ∃ (LC:Nat→Prop) (locC:Nat→Option Value),HRel LC n hp locC w∧(∀ x v,x.okB n=true→AR s.N (Dm L loc) loc w x v→AR n (Dm LC locC) locC w x v) ∧
      ∀ (w' : World) (loc' : Nat→Option Value) (hp' : Hp),HRel LC n hp' loc' w' → Ext locC w loc' w' → (∀ t ∈ ks,t < n→Kept hp hp' t) →
        ∃ loc2,Rel All L (s.callM n ks hp') loc2 a w' ∧ Ext loc w loc2 w' ∧ ∀ x v,AR n (Dm LC loc') loc' w' x v→AR s.N (Dm L loc2) loc2 w' x v:=by
  obtain ⟨c1,c2,c3⟩:=hps
  let locC:Nat→Option Value:=fun t=>if t < n then loc t else none
  let LC:Nat→Prop:=fun b=>L b ∨ ∃ t u,n≤t∧loc t=some u∧blkOf u=some b
  have lC : ∀ t u,locC t=some u→t < n∧loc t=some u:=fun t u h=>by
    simp only [locC] at h
    split at h
    · exact ⟨by assumption,h⟩
    · cases h
  have dC : ∀ b,Dm LC locC b→Dm L loc b:=fun b h=>by
    rcases h with (h|⟨t,u,_,h1,h2⟩)|⟨t,u,h1,h2⟩
    · exact .inl h
    · exact .inr ⟨t,u,h1,h2⟩
    · exact .inr ⟨t,u,(lC t u h1).2,h2⟩
  have hlook : ∀ t o,hp.lookup t=some o→s.hp.lookup t=some o∧t < n∧o.okB n=true:=fun t o h=>c2 _ (mem_of_look h)
  have hdead : ∀ t,hp.lookup t=none→locC t=none:=fun t h=>by
    simp only [locC]
    split
    · rename_i hlt
      refine hr.hp.dead t ?_
      cases ho:s.hp.lookup t with
      | none=>rfl
      | some o=>have:=c3 _ (mem_of_look ho) hlt;rw [h] at this;cases this
    · rfl
  refine ⟨LC,locC,⟨fun t o ho=>?_,hdead,fun t t' u u' b h1 h2=>hr.hp.apart t t' u u' b (lC t u h1).2 (lC t' u' h2).2,fun b hb=>hr.hp.dm_lt (dC b (.inl hb)),fun t u b h1 h2 h3=>?_⟩,fun x v hx h=>(h.low hx).mono (Nat.le_refl _) (Kp.refl _ _) (fun k _ h=>dC k h) (fun t u _ h=>(lC t u h).2),fun w' loc' hp' hh' hx hks=>?_⟩
  · obtain ⟨h1,h2,h3⟩:=hlook t o ho
    obtain ⟨_,u,h4,h5⟩:=hr.hp.at' t o h1
    exact ⟨h2,u,by simp [locC,h2,h4],(h5.low h3).mono (Nat.le_refl _) (Kp.refl _ _) (fun k _ h=>dC k h) (fun t u _ h=>(lC t u h).2) (fun _ _=>rfl)⟩
  · rcases h3 with h3|⟨t',u',h4,h5,h6⟩
    · exact hr.hp.notL t u b (lC t u h1).2 h2 h3
    · have:=hr.hp.apart t t' u u' b (lC t u h1).2 h5 h2 h6
      have:=(lC t u h1).1
      omega
  · let loc2:Nat→Option Value:=fun t=>if t < n then loc' t else loc t
    have hge : ∀ t,n≤t→loc' t=none:=fun t h=>hh'.dead t (hh'.none_at h)
    have l2 : ∀ t u,loc2 t=some u→(t < n∧loc' t=some u)∨(n≤t∧loc t=some u):=fun t u h=>by
      simp only [loc2] at h
      split at h
      · exact .inl ⟨by assumption,h⟩
      · exact .inr ⟨by omega,h⟩
    have lt' : ∀ t u,loc' t=some u→t < n:=fun t u h=>Nat.lt_of_not_le fun e=>by rw [hge t e] at h;cases h
    have d2 : ∀ b,Dm L loc2 b→Dm LC loc' b:=fun b h=>by
      rcases h with h|⟨t,u,h1,h2⟩
      · exact .inl (.inl h)
      · rcases l2 t u h1 with ⟨_,h3⟩|⟨h3,h4⟩
        · exact .inr ⟨t,u,h3,h2⟩
        · exact .inl (.inr ⟨t,u,h3,h4,h2⟩)
    have kpL:Kp (Dm L loc) w w':=hx.kp.wide fun b h=>by
      rcases h with h|⟨t,u,h1,h2⟩
      · exact h.elim
      · exact .inr ⟨t,u,(lC t u h1).2,h2⟩
    have hD : ∀ k,k < w.heap.size→Dm L loc2 k→Dm L loc k:=fun k hk h=>by
      rcases d2 k h with h|h
      · exact dC k (.inl h)
      · rcases hx.fresh k (.inr h) with (h|⟨t,u,h1,h2⟩)|h
        · exact h.elim
        · exact .inr ⟨t,u,(lC t u h1).2,h2⟩
        · omega
    have hl : ∀ t u,t < s.N→(n≤t∨t ∈ ks)→loc2 t=some u→loc t=some u:=fun t u _ hc h=>by
      rcases l2 t u h with ⟨h1,h2⟩|⟨_,h2⟩
      · rcases hc with hc|hc
        · omega
        · obtain ⟨o,o',v,g1,g2,g3,g4⟩:=(hks t hc h1).spec
          obtain ⟨_,u1,g5,g6⟩:=hr.hp.at' t o (hlook t o g1).1
          obtain ⟨_,u2,g7,g8⟩:=hh'.at' t o' g2
          rw [h2] at g7;cases g7
          rw [g5,g6.handle g3,g8.handle g4]
      · exact h2
    have hlt : ∀ t,t < n→(s.callM n ks hp').hp.lookup t=hp'.lookup t:=fun t ht=>by
      simp only [ASt.callM]
      rw [lookup_apd,lookup_map,lookup_ge,if_neg (by omega)]
      simp
    have hgt : ∀ t,n≤t→(s.callM n ks hp').hp.lookup t=(s.hp.lookup t).map (AO.keep n ks):=fun t ht=>by
      simp only [ASt.callM]
      rw [lookup_apd,lookup_map,lookup_ge,if_pos ht,hh'.none_at ht]
      simp
    have blk : ∀ t u b,n≤t→loc t=some u→blkOf u=some b→b < w.heap.size∧w'.heap[b]? = w.heap[b]?:=fun t u b ht h1 h2=>by
      obtain ⟨o,_,ho⟩:=hr.hp.loc_obj h1
      refine ⟨ho.blk_lt h2,hx.kp.block b (ho.blk_lt h2) ?_⟩
      rintro (h|⟨t',u',h3,h4⟩)
      · exact h
      · have:=hr.hp.apart t t' u u' b h1 (lC t' u' h3).2 h2 h4
        have:=(lC t' u' h3).1
        omega
    have mix : ∀ t t' u u' b,t < n→n≤t' → loc' t=some u→loc t' = some u' → blkOf u=some b→blkOf u' = some b→False:=fun t t' u u' b h1 h2 h3 h4 h5 h6=>by
      rcases hx.fresh b (.inr ⟨t,u,h3,h5⟩) with (h|⟨t2,u2,h7,h8⟩)|h
      · exact h.elim
      · have:=hr.hp.apart t2 t' u2 u' b (lC t2 u2 h7).2 h4 h8 h6
        have:=(lC t2 u2 h7).1
        omega
      · have:=(blk t' u' b h2 h4 h6).1
        omega
    refine ⟨loc2,⟨hr.defers,hr.size,fun t _=>?_,⟨fun t o ho=>?_,fun t ht=>?_,fun t t' u u' b h1 h2 h3 h4=>?_,fun b hb=>Nat.lt_of_lt_of_le (hr.hp.inL b hb) kpL.size,fun t u b h1 h2 h3=>?_⟩⟩,⟨hx.kp.wide fun b h=>?_,fun b h=>?_⟩,fun x v h=>h.mono c1 (Kp.refl _ _) (fun k _ h=>d2 k h) (fun t u ht h=>?_)⟩
    · rw [ASt.get_callM]
      exact (hr.fr t trivial).keep (Nat.le_refl _) kpL hD hl
    · rcases Nat.lt_or_ge t n with ht|ht
      · rw [hlt t ht] at ho
        obtain ⟨h1,u,h2,h3⟩:=hh'.at' t o ho
        exact ⟨Nat.lt_of_lt_of_le h1 c1,u,by simp [loc2,ht,h2],h3.mono c1 (Kp.refl _ _) (fun k _ h=>d2 k h) (fun t u ht h=>by rcases l2 t u h with ⟨_,h⟩|⟨h,_⟩ <;> first|exact h|omega) (fun _ _=>rfl)⟩
      · rw [hgt t ht] at ho
        obtain ⟨o',h1,rfl⟩:=Option.map_eq_some_iff.1 ho
        obtain ⟨h2,u,h3,h4⟩:=hr.hp.at' t o' h1
        exact ⟨h2,u,by simp [loc2,Nat.not_lt.2 ht,h3],h4.keep (Nat.le_refl _) kpL hD hl fun b hb=>(blk t u b ht h3 hb).2⟩
    · rcases Nat.lt_or_ge t n with hlt'|hge'
      · rw [hlt t hlt'] at ht
        simp [loc2,hlt',hh'.dead t ht]
      · rw [hgt t hge'] at ht
        simp only [Option.map_eq_none_iff] at ht
        simp [loc2,Nat.not_lt.2 hge',hr.hp.dead t ht]
    · rcases l2 t u h1 with ⟨g1,g2⟩|⟨g1,g2⟩ <;> rcases l2 t' u' h2 with ⟨g3,g4⟩|⟨g3,g4⟩
      · exact hh'.apart t t' u u' b g2 g4 h3 h4
      · exact (mix t t' u u' b g1 g3 g2 g4 h3 h4).elim
      · exact (mix t' t u' u b g3 g1 g4 g2 h4 h3).elim
      · exact hr.hp.apart t t' u u' b g2 g4 h3 h4
    · rcases l2 t u h1 with ⟨g1,g2⟩|⟨g1,g2⟩
      · exact hh'.notL t u b g2 h2 (.inl h3)
      · exact hr.hp.notL t u b g2 h2 h3
    · rcases h with h|⟨t,u,h1,h2⟩
      · exact h.elim
      · exact .inr ⟨t,u,(lC t u h1).2,h2⟩
    · rcases h with h|⟨t,u,h1,h2⟩
      · exact h.elim
      · rcases l2 t u h1 with ⟨_,h3⟩|⟨_,h3⟩
        · rcases hx.fresh b (.inr ⟨t,u,h3,h2⟩) with (h|⟨t2,u2,h7,h8⟩)|h
          · exact h.elim
          · exact .inl (.inr ⟨t2,u2,(lC t2 u2 h7).2,h8⟩)
          · exact .inr h
        · exact .inl (.inr ⟨t,u,h3,h2⟩)
    · rcases l2 t u h with ⟨_,h⟩|⟨h,_⟩
      · exact h
      · omega
section
variable {P:Program} {ops:Array Oper} {o:Oper} {s:ASt}
def CallM (P:Program) (s:ASt) (f:FuncId) (xs:List AV) (d:Option Nat) (K:ASt→Prop):Prop := ∃ n hp Q ks,Ent P f∧MemC P f n hp xs Q∧Passes s n hp∧(xs.all (·.okB n))=true ∧ ∀ hp' r,Q hp' r→(∀ t ∈ ks,t < n→Kept hp hp' t)∧K ((s.callM n ks hp').put d r)
theorem CallM.mono {f:FuncId} {xs:List AV} {d:Option Nat} {K K' : ASt→Prop} (h : ∀ s,K s→K' s) (k:CallM P s f xs d K):CallM P s f xs d K' :=
  let ⟨n,hp,Q,ks,h1,h2,h3,h4,h5⟩:=k;⟨n,hp,Q,ks,h1,h2,h3,h4,fun hp' r hq=>⟨(h5 hp' r hq).1,h _ (h5 hp' r hq).2⟩⟩
theorem CallM.eff {f:FuncId} {xs:List AV} {K:ASt→Prop} {vals:Act→List Value} (h:CallM P s f xs o.dst K) (hd : ∀ t,o.dst=some t→t < s.n)
    (hrun : ∀ L loc a w,Rel All L s loc a w→Ent P f→(execOp a.eval o).run P w = .ok (.enter f (vals a).toArray) w∧ARs s.N (Dm L loc) loc w xs (vals a)):OpEffG P o s K:=fun L loc a w hr=>by
  obtain ⟨n,hp,Q,ks,hent,hm,hps,hok,hq⟩:=h
  obtain ⟨hx,ha⟩:=hrun L loc a w hr hent
  obtain ⟨LC,locC,h1,h2,h3⟩:=mem_call hr hps ks
  unfold Oper.wp
  rw [hx]
  refine (hm LC locC w (vals a) h1 ⟨ha.1,fun j x v hx hv=>h2 x v (List.all_eq_true.1 hok x (List.mem_of_getElem? hx)) (ha.2 j x v hx hv)⟩).mono fun e w' ⟨v,loc',hp',r,he,hQ,g1,g2,g3⟩=>?_
  subst he
  obtain ⟨q1,q2⟩:=hq hp' r hQ
  obtain ⟨loc2,g4,g5,g6⟩:=h3 w' loc' hp' g1 g3 q1
  exact ⟨_,loc2,q2,Rel.put' g4 (s:=s.callM n ks hp') hd (g6 r v g2),g5⟩
def CallN (P:Program) (s:ASt) (f:FuncId) (xs:List AV) (d:Option Nat) (K:ASt→Prop):Prop := ∃ o:AO,Ent P f∧(∀ L loc w vs,HRel L s.N s.hp loc w→ARs s.N (Dm L loc) loc w xs vs →
  Calls P f vs.toArray w fun e w' => ∃ u,e = .returned u∧Blw w.heap.size w w' ∧ (∀ b,blkOf u=some b→w.heap.size≤b)∧u.oneCell' = true∧OR (s.N + 1) (Dm L (setLoc loc s.N u)) (setLoc loc s.N u) w' u o)∧K ((s.add o).put d (.own s.N))
theorem CallN.eff {f:FuncId} {xs:List AV} {K:ASt→Prop} {vals:Act→List Value} (h:CallN P s f xs o.dst K) (hd : ∀ t,o.dst=some t→t < s.n)
    (hrun : ∀ L loc a w,Rel All L s loc a w→Ent P f→(execOp a.eval o).run P w = .ok (.enter f (vals a).toArray) w∧ARs s.N (Dm L loc) loc w xs (vals a)):OpEffG P o s K:=fun L loc a w hr=>by
  obtain ⟨ob,hent,hc,hK⟩:=h
  obtain ⟨hx,ha⟩:=hrun L loc a w hr hent
  unfold Oper.wp
  rw [hx]
  refine (hc L loc w (vals a) hr.hp ha).mono fun e w' ⟨u,he,hb,hu,h1,hor⟩=>?_
  subst he
  refine ⟨_,setLoc loc s.N u,hK,(hr.add hb u ob hu hor).put' hd (.own s.N _ (Nat.lt_succ_self _) h1 fun z hz=>?_),.add hb _ _ hu⟩
  rw [setLoc_same] at hz;cases hz;rfl
def CallX (P:Program) (s:ASt) (f:FuncId) (xs:List AV) (d:Option Nat) (K:ASt→Prop):Prop:=CallM P s f xs d K∨CallN P s f xs d K
theorem CallX.mono {f:FuncId} {xs:List AV} {d:Option Nat} {K K' : ASt→Prop} (h : ∀ s,K s→K' s) (k:CallX P s f xs d K):CallX P s f xs d K' :=
  k.imp (CallM.mono h) fun ⟨o,h1,h2,h3⟩=>⟨o,h1,h2,h _ h3⟩
theorem CallX.eff {f:FuncId} {xs:List AV} {K:ASt→Prop} {vals:Act→List Value} (h:CallX P s f xs o.dst K) (hd : ∀ t,o.dst=some t→t < s.n)
    (hrun : ∀ L loc a w,Rel All L s loc a w→Ent P f→(execOp a.eval o).run P w = .ok (.enter f (vals a).toArray) w∧ARs s.N (Dm L loc) loc w xs (vals a)):OpEffG P o s K:=h.elim (fun h=>h.eff hd hrun) (fun h=>h.eff hd hrun)
theorem op_callM (f:FuncId) (args:Array Operand) (tys:Array TypeId) {K:ASt→Prop} (h:o.op = .call { callee := .value (.func f),args:=args,argTypes:=tys }) (hc:CallX P s f (args.toList.map s.ev) o.dst K) (hd : ∀ t,o.dst=some t→t < s.n):OpEffG P o s K :=
  hc.eff (vals:=fun a=>args.toList.map a.eval) hd fun L loc a w hr he=>⟨by
    have:=he (args.map a.eval) w
    have e:(args.toList.map a.eval).toArray=args.map a.eval:=by apply Array.ext';simp
    rw [e]
    simp [execOp,h,resolve,Act.eval,Deferred.ofValue,invoke,this],by simp,fun j x v hx hv=>by
    simp only [List.getElem?_map,Option.map_eq_some_iff] at hx hv
    obtain ⟨y,hy,rfl⟩:=hx
    obtain ⟨y',hy',rfl⟩:=hv
    rw [hy] at hy'
    cases hy'
    exact hr.ev y (fun _ _=>trivial)⟩
theorem op_callMF (t:Tmp) (f:FuncId) (caps:List AV) (args:Array Operand) (tys:Array TypeId) {K:ASt→Prop} (h:o.op = .call { callee := .value (.tmp t),args:=args,argTypes:=tys }) (hf:s.get t = .fn (.func f) caps) (hc:CallX P s f (args.toList.map s.ev ++ caps) o.dst K) (hd : ∀ t,o.dst=some t→t < s.n):OpEffG P o s K:=by
  refine hc.eff (vals:=fun a=>args.toList.map a.eval ++ (match a.eval (.tmp t) with | .func _ _ vs=>vs.toList|_ => [])) hd fun L loc a w hr he=>?_
  have h0:=hr.ev (.tmp t) (fun _ _=>trivial)
  simp only [ASt.ev,hf] at h0
  generalize hu:a.eval (.tmp t)=u at h0
  cases h0 with
  | fn _ _ vs hvl hva =>
  refine ⟨?_,by simp [hvl],fun j x v hx hv=>?_⟩
  · have:=he (args.map a.eval ++ vs) w
    have e:(args.toList.map a.eval ++ vs.toList).toArray=args.map a.eval ++ vs:=by simp
    simp only [e]
    simp [execOp,h,resolve,hu,Deferred.ofValue,invoke,this]
  · rw [List.getElem?_append] at hx hv
    simp only [List.length_map] at hx hv
    split at hx
    · rename_i hlt
      rw [if_pos hlt] at hv
      simp only [List.getElem?_map,Option.map_eq_some_iff] at hx hv
      obtain ⟨y,hy,rfl⟩:=hx
      obtain ⟨y',hy',rfl⟩:=hv
      rw [hy] at hy'
      cases hy'
      exact hr.ev y (fun _ _=>trivial)
    · rename_i hlt
      rw [if_neg hlt] at hv
      have h5:=hva _ x hx
      have h6:vs[j - args.toList.length]? = some v:=by simpa using hv
      rw [Array.getD_eq_getD_getElem?,h6] at h5
      exact h5
end
def startM (xs:List AV) (hp:Hp) (n N:Nat):ASt:=⟨frOf 0 xs,hp,n,N⟩
def FinM (P:Program) (fn:Func) (N:Nat) (Q:Hp→AV→Prop) (e:Exit) (s:ASt):Prop:=(e = .normal∨e = .ret) ∧ ∃ s',Weak s s' ∧ s'.N=N ∧ ∃ r,ares P s' fn.results.toList=some r∧Q s'.hp r
theorem MemC.of {P:Program} {f:FuncId} {fn:Func} {c:Code} {xs:List AV} {N:Nat} {hp:Hp} {Q:Hp→AV→Prop} (hf:P.funcs[f]? = some fn) (hb:fn.body=some c) (n:Nat) (hn:xs.length + (fn.ntmps - xs.length)=n) (h3:fn.results.size ≤ 3) (h:T Fence.wide P c (FinM P fn N Q) (startM xs hp n N)):MemC P f N hp xs Q:=fun L loc w vs hh hvs=>by
  have hst:Rel All ⟨L,[]⟩ (startM xs hp n N) loc { tmps:=vs.toArray ++ Array.replicate (fn.ntmps - vs.toArray.size) undef,defers := [] } w:=by
    refine ⟨rfl,by simp [startM,hvs.1];omega,fun t _=>?_,hh⟩
    unfold ASt.get startM
    rw [frOf_lookup,if_pos (Nat.zero_le _),Nat.sub_zero]
    cases hx:xs[t]? with
    | none=>exact .junk _
    | some x =>
      have hlt:=(List.getElem?_eq_some_iff.1 hx).1
      have hv:vs[t]? = some (vs[t]'(by rw [hvs.1];exact hlt)):=List.getElem?_eq_getElem _
      have h1:=hvs.2 t x _ hx hv
      have e:slot { tmps:=vs.toArray ++ Array.replicate (fn.ntmps - vs.toArray.size) undef,defers := [] } t=vs[t]'(by rw [hvs.1];exact hlt):=by
        unfold slot
        rw [Array.getD_eq_getD_getElem?,Array.getElem?_append,if_pos (by simp [hvs.1,hlt])]
        simp [hv]
      rw [e]
      exact h1
  refine callsIn_wide.1 (callsIn_of_wp_marks (n := 0) hf hb trivial (wpIn_mono (h ⟨L,[]⟩ loc _ w hst) fun e a' w' ⟨s',loc',⟨he,s2,hw,hN,r,hares,hQ⟩,⟨L1,hrel,hlx⟩,hx⟩=>?_))
  obtain ⟨new,e1,hnd,hnew⟩:=hlx.ds
  rw [List.append_nil] at e1
  obtain ⟨l2,hrel2,hx2⟩:=hw L1 loc' a' w' hrel
  have hrel3:=hrel2.shut new fun D hD=>(hnew D hD).2.1
  obtain ⟨v,hrun,hav⟩:=run_ares hrel3 fn hares h3
  have hx3:=hx.trans hx2
  have k1:Kp (Dm (fun _=>False) loc) w (shutM new w'):=by
    have k0:Kp (fun k=>Dm (fun _=>False) loc k∨k ∈ new) w (shutM new w'):=(hx3.kp.wide fun k h => .inl h).trans ((shutM_kp new w').wide fun k h => .inr h) fun x hx' => .inl hx'
    exact ⟨k0.os,k0.tape,k0.output,k0.size,fun k hk hn=>k0.block k hk fun hd=>hd.elim hn (fun hd=>by have:=(hnew k hd).1;omega),k0.drawn⟩
  have dm : ∀ k,Dm L l2 k→Dm L1 l2 k:=fun k h=>h.imp (hlx.sub k) id
  have hhp:HRel L N s2.hp l2 (shutM new w'):=by
    rw [← hN]
    exact ⟨fun t o ho=>let ⟨g1,u,g2,g3⟩:=hrel3.hp.at' t o ho;⟨g1,u,g2,g3.mono (Nat.le_refl _) (Kp.refl _ _) (fun k _ h=>dm k h) (fun _ _ _ h=>h) (fun _ _=>rfl)⟩,hrel3.hp.dead,hrel3.hp.apart,fun b hb=>hrel3.hp.inL b (hlx.sub b hb),fun t u b g1 g2 g3=>hrel3.hp.notL t u b g1 g2 (hlx.sub b g3)⟩
  have hleave:LeavesInM Fence.wide 0 P fn a'.tmps (fun e w' => ∃ v loc' hp' r,e = .returned v∧Q hp' r∧HRel L N hp' loc' w' ∧ AR N (Dm L loc') loc' w' r v∧Ext loc w loc' w') a'.defers .returning w':=by
    rw [hrel.defers,e1]
    exact leaves_marks new w' hnd (fun D hD=>(hnew D hD).2.2) ⟨v,hrun,v,l2,s2.hp,r,rfl,hQ,hhp,by rw [← hN];exact hav.mono (Nat.le_refl _) (Kp.refl _ _) (fun k _ h=>dm k h) (fun _ _ _ h=>h),⟨k1,hx3.fresh⟩⟩
  rcases he with rfl|rfl
  · exact hleave
  · exact hleave
end Go.Proofs.Ytnckehomadnhoaa
namespace Go.Proofs.Ytnckehomadnhoaa
open Go.RowKit Go.Sort
open Classical in
noncomputable def aop (P:Program) (s:ASt):Op→Option AV
  | .move x=>some (s.ev x)
  | .assign x=>some (s.ev x)
  | .pick c x y=>match s.ev c with
    | .p (.val (.bool b))=>some (if b=true then s.ev x else s.ev y)
    | _=>none
  | .load t x=>aload P s t (s.ev x)
  | .fieldAddr t x f=>afield P s t f (s.ev x)
  | .indexAddr t x i=>match s.ev i with
    | .p (.val (.int _ n))=>aindex P s t n (s.ev x)
    | _=>none
  | .binOp op t x y _=>match s.ev x,s.ev y with
    | .ptr tag _,.p (.val (.pointer none))=>match op,s.hp.lookup tag,ptTy P t with
      | .eql,some (.boxP _ _ _),some true=>some (.bool false)
      | .neq,some (.boxP _ _ _),some true=>some (.bool true)
      | _,_,_=>none
    | u,v=>abin P op t u v
  | .unOp op _ x=>aun op (s.ev x)
  | .extract x i=>match s.ev x with
    | .tup cs=>cs[i]?
    | _=>none
  | .convert src dst x=>match s.ev x,P.underlying dst with
    | .p (.val (.int _ n)),some (.int k)=>if (P.underlying src).isSome=true then some (.p (.val (.int k (k.wrap n)))) else none
    | _,_=>none
  | .build t parts=>abuild P s t parts.toList
  | .buildSlice t len parts=>abuildS P s t len parts.toList
  | .slice t x lo hi none=>match evI s lo,evI s hi with
    | some li,some ui=>aslice P s t li ui (s.ev x)
    | _,_=>none
  | .field t x f=>apartF P s t f x
  | .index t x i=>apartI P s t x i
  | .makeFunc fn ⟨[]⟩ caps=>some (.fn fn (caps.toList.map s.ev))
  | .call { callee := .builtin .len,args:=⟨[x]⟩,argTypes:=⟨[t]⟩ }=>if isSl P t=true then (alen s (s.ev x)).map fun n => .int n else none
  | .call { callee := .builtin .max,args:=⟨[x,y]⟩,.. }=>match s.ev x,s.ev y with
    | .p (.val (.int .i64 a)),.p (.val (.int .i64 b))=>some (.int (if a < b then b else a))
    | _,_=>none
  | .nilCheck x=>match s.ev x with
    | .elt r k=>some (.elt r k)
    | .fn (.func f) c=>some (.fn (.func f) c)
    | .ptr t k=>match s.hp.lookup t with
      | some (.boxP _ _ _)=>some (.ptr t k)
      | _=>none
    | _=>none
  | .lookup t x i ok=>match s.ev x with
    | .own tag=>match s.hp.lookup tag,mapTy P t,aval (s.ev i) with
      | some (.map _ P' k' _ f),some (k,_,z),some key=>match keyOf P k key with
        | some kl=>if P' = P∧k' = k∧Go.Maps.Keyed P k then some (if ok=true then .tup [cv ((f kl).getD z),.p (.val (.bool (f kl).isSome))] else cv ((f kl).getD z)) else none
        | none=>none
      | _,_,_=>none
    | _=>none
  | _=>none
theorem aop_sound {P:Program} {ops:Array Oper} {o:Oper} {s:ASt} {av:AV} (h:aop P s o.op=some av):OpVal P ops o s av:=by
  obtain ⟨dst,op,ty,pos,aft,gd⟩:=o
  simp only at h
  unfold aop at h
  split at h
  · cases h;exact op_move _ (.inl rfl)
  · cases h;exact op_move _ (.inr rfl)
  · split at h
    · rename_i b hb;cases h;exact op_pick _ _ _ b rfl hb
    · cases h
  · exact op_load _ _ _ rfl h
  · exact op_field _ _ _ _ rfl h
  · split at h
    · rename_i k n hi;exact op_index _ _ _ k n _ rfl hi h
    · cases h
  · split at h
    · rename_i tag off hx hy
      split at h
      · rename_i pin ty cs hlk ht;cases h;exact op_ptrNil true _ _ _ _ tag off pin ty cs rfl hx hy hlk ht
      · rename_i pin ty cs hlk ht;cases h;exact op_ptrNil false _ _ _ _ tag off pin ty cs rfl hx hy hlk ht
      · cases h
    · exact op_bin _ _ _ _ _ _ rfl h
  · exact op_un _ _ _ _ rfl h
  · split at h
    · rename_i cs hx;exact op_extract _ _ _ _ rfl hx h
    · cases h
  · split at h
    · rename_i k' n k hx hd
      split at h
      · rename_i hs;cases h;exact op_convert _ _ _ k k' n rfl hs hd hx
      · cases h
    · cases h
  · exact op_build _ _ _ rfl h
  · exact op_buildS _ _ _ _ rfl h
  · split at h
    · rename_i li ui h1 h2;exact op_slice _ _ _ _ li ui _ rfl h1 h2 h
    · cases h
  · exact op_fieldV _ _ _ _ rfl h
  · exact op_indexV _ _ _ _ rfl h
  · cases h;exact op_makeFunc _ _ rfl
  · split at h
    · rename_i ht
      obtain ⟨n,hn,rfl⟩:=Option.map_eq_some_iff.1 h
      exact op_len _ _ n rfl ht hn
    · cases h
  · split at h
    · rename_i a b hx hy;cases h;exact op_max _ _ _ a b rfl hx hy
    · cases h
  · rename_i x
    split at h
    · rename_i r k hx;cases h;rw [← hx];exact op_nilCheck x rfl (.inl ⟨r,k,hx⟩)
    · rename_i f c hx;cases h;rw [← hx];exact op_nilCheck x rfl (.inr (.inl ⟨f,c,hx⟩))
    · rename_i t k hx
      split at h
      · rename_i pin ty cs hlk;cases h;rw [← hx];exact op_nilCheck x rfl (.inr (.inr ⟨t,k,pin,ty,cs,hx,hlk⟩))
      · cases h
    · cases h
  · split at h
    · rename_i tag hx
      split at h
      · rename_i pin P' k' n f k e z key hlk ht hi
        split at h
        · rename_i kl hk
          split at h
          · rename_i hc
            obtain ⟨rfl,rfl,hK⟩:=hc
            cases h
            exact op_lookup _ _ _ _ tag n pin k' e z key kl f rfl ht hx hlk hK hi hk
          · cases h
        · cases h
      · cases h
    · cases h
  · cases h
def dstOk (o:Oper) (s:ASt):Prop:=match o.dst with
  | some d=>d < s.n
  | none=>True
theorem dstOk.h {o:Oper} {s:ASt} (h:dstOk o s) : ∀ t,o.dst=some t→t < s.n:=fun t e=>by unfold dstOk at h;rw [e] at h;exact h
inductive CallV (P:Program) (s:ASt) (f:FuncId) (xs:List AV) (r:AV):Prop where
  | plain (he:Ent P f) (h:PureC P f xs r) (hok:(xs.all (·.okB 0))=true)
  | view (he:Ent P f) (h:PureC P f (xs.map (AV.view s)) r) (hok:((xs.map (AV.view s)).all (·.okB 0))=true) (hs:r.scal=true)
  | viewF (x:PV) (e:r = .p x) (he:Ent P f) (h:PureF P f (xs.map (AV.view s)) x) (hok:((xs.map (AV.view s)).all (·.okB 0))=true)
theorem CallV.val {P:Program} {s:ASt} {ops:Array Oper} {o:Oper} {f:FuncId} {args:Array Operand} {tys:Array TypeId} {r:AV} (ho:o.op = .call { callee := .value (.func f),args:=args,argTypes:=tys }) (h:CallV P s f (args.toList.map s.ev) r):OpVal P ops o s r:=by
  cases h with
  | plain he h hok=>exact op_call f args tys r ho he h hok
  | view he h hok hs =>
    rw [List.map_map] at h hok
    exact op_callV f args tys r ho he h hok hs
  | viewF x e he h hok =>
    rw [List.map_map] at h hok
    rw [e]
    exact op_callVF f args tys x ho he h hok
def WO (P:Program) (o:Oper) (s:ASt) (K:ASt→Prop):Prop:=match o.op with
  | .call { callee := .value (.func f),args:=args,.. }=>(∃ r,CallV P s f (args.toList.map s.ev) r∧K (s.put o.dst r))∨CallX P s f (args.toList.map s.ev) o.dst K
  | .call { callee := .value (.tmp t),args:=args,.. }=>match s.get t with
    | .fn (.func f) caps=>(∃ r,(Ent P f∧PureC P f (args.toList.map s.ev ++ caps) r∧((args.toList.map s.ev ++ caps).all (·.okB 0))=true)∧K (s.put o.dst r))∨CallX P s f (args.toList.map s.ev ++ caps) o.dst K
    | _=>False
  | .makeMap t none=>match mapTy P t with
    | some (k,_,_)=>K ((s.add (.map none P k 0 fun _=>none)).put o.dst (.own s.N))
    | none=>False
  | .lookup t x i ok=>match s.ev x with
    | .own tag=>match s.hp.lookup tag,mapTy P t,aval (s.ev i) with
      | some (.map _ P' k' _ f),some (k,_,z),some key=>match keyOf P k key with
        | some kl=>(P' = P∧k' = k∧Go.Maps.Keyed P k)∧K (s.put o.dst (if ok=true then .tup [cv ((f kl).getD z),.p (.val (.bool (f kl).isSome))] else cv ((f kl).getD z)))
        | none=>False
      | some (.amap P' k' _ f _),some (k,_,z),some key=>match keyOf P k key with
        | some kl=>(P' = P∧k' = k∧Go.Maps.Keyed P k)∧K (s.put o.dst (if ok=true then .tup [(f kl).getD (cv z),.p (.val (.bool (f kl).isSome))] else (f kl).getD (cv z)))
        | none=>False
      | _,_,_=>False
    | _=>False
  | .mapUpdate t x i y=>match s.ev x with
    | .own tag=>match s.hp.lookup tag,mapTy P t,aval (s.ev i),aval (s.ev y) with
      | some (.map pin P' k' n f),some (k,_,_),some key,some val=>match keyOf P k key with
        | some kl=>(P' = P∧k' = k∧Go.Maps.Keyed P k∧n < maxLen∧o.dst=none)∧K { s with hp:=setHp s.hp tag (.map pin P k (n + 1) (updF f kl (some val))) }
        | none=>False
      | some (.amap P' k' n f _),some (k,_,_),some key,_=>match keyOf P k key with
        | some kl=>(P' = P∧k' = k∧Go.Maps.Keyed P k∧n < maxLen∧o.dst=none)∧K { s with hp:=setHp s.hp tag (.amap P k (n + 1) (updA f kl (some (s.ev y))) none) }
        | none=>False
      | _,_,_,_=>False
    | _=>False
  | .mapEntry t x i=>match s.ev x with
    | .own tag=>match s.hp.lookup tag,mapTy P t,aval (s.ev i) with
      | some (.amap P' k' n f _),some (k,_,z),some key=>match keyOf P k key with
        | some kl=>(P' = P∧k' = k∧Go.Maps.Keyed P k∧n < maxLen) ∧ ∀ st:Nat,K (ASt.put { s with hp:=setHp s.hp tag (.amap P k (n + 1) (updA f kl (some ((f kl).getD (cv z)))) (some (st,kl))) } o.dst (.tup [(f kl).getD (cv z),.p (.val (.int .i64 (st:Int)))]))
        | none=>False
      | _,_,_=>False
    | _=>False
  | .entryStore t x i y=>match s.ev x with
    | .own tag=>match s.hp.lookup tag,mapTy P t with
      | some (.amap P' k' n f (some (st,kl))),some (k,_,_)=>(P' = P∧k' = k∧Go.Maps.Keyed P k∧n < maxLen∧o.dst=none∧s.ev i = .p (.val (.int .i64 (st:Int))))∧K { s with hp:=setHp s.hp tag (.amap P k (n + 1) (updA f kl (some (s.ev y))) none) }
      | _,_=>False
    | _=>False
  | .call { callee := .builtin .delete,args:=⟨[x,i]⟩,argTypes:=⟨[t,k0]⟩ }=>match s.ev x with
    | .own tag=>match s.hp.lookup tag,mapTy P t,aval (s.ev i) with
      | some (.map pin P' k' n f),some (k,_,_),some key=>match keyOf P k key with
        | some kl=>(P' = P∧k' = k∧k0=k∧Go.Maps.Keyed P k)∧K (ASt.put { s with hp:=setHp s.hp tag (.map pin P k n (updF f kl none)) } o.dst (.tup []))
        | none=>False
      | _,_,_=>False
    | _=>False
  | .range t x=>match s.ev x with
    | .own tag=>match s.hp.lookup tag,mapTy P t with
      | some (.map _ P' k' n f),some (k,_,_)=>(P' = P∧k' = k) ∧ ∀ b r es ck,MapIs P k n f es ck→K (ASt.put { s with hp:=(s.N,.raw (.pointer (some ⟨r,0,none⟩)) (.mapIter (some b) ck #[] ck)) :: setHp s.hp tag (.raw (.map (some b)) (.map es ck)),N:=s.N + 1 } o.dst (.own s.N))
      | _,_=>False
    | _=>False
  | .next x false=>match s.ev x with
    | .own ti => ∃ (tm r b since c0:Nat) (seen:Array Nat) (es:Array MapEntry) (ck:Nat),(s.hp.lookup ti=some (.raw (.pointer (some ⟨r,0,none⟩)) (.mapIter (some b) since seen c0))∧s.hp.lookup tm=some (.raw (.map (some b)) (.map es ck))∧(∀ x ∈ es.toList,x.born < since)∧since≤c0)∧((lefts es seen).size=0→K (s.put o.dst (.tup [.p (.val (.bool false))]))) ∧ ∀ e ∈ (lefts es seen).toList,K (ASt.put { s with hp:=setHp s.hp ti (.raw (.pointer (some ⟨r,0,none⟩)) (.mapIter (some b) since (seen.push e.born) ck)) } o.dst (.tup [.p (.val (.bool true)),cv e.key,cv e.val]))
    | _=>False
  | .entry x=>match s.ev x with
    | .own ti => ∃ (tm r b since:Nat) (seen:Array Nat) (es:Array MapEntry) (ck:Nat) (e:MapEntry),(s.hp.lookup ti=some (.raw (.pointer (some ⟨r,0,none⟩)) (.mapIter (some b) since (seen.push e.born) ck))∧s.hp.lookup tm=some (.raw (.map (some b)) (.map es ck))∧e ∈ es.toList∧(es.toList.map (·.born)).Nodup)∧K (s.put o.dst (.tup [cv e.key,cv e.val]))
    | _=>False
  | .call { callee := .builtin .clear,args:=⟨[x]⟩,argTypes:=⟨[t]⟩ }=>match s.ev x with
    | .suf tag n m=>match s.hp.lookup tag,elemTyB P t with
      | some (.row e n' rows),some (e',m',_)=>match tyZero P e with
        | some zs=>(n' = n∧e' = e∧m' = n∧m < rows.length)∧K (ASt.put { s with hp:=setHp s.hp tag (.row e n (rows.take m ++ List.replicate (rows.length - m) (zs.map .val))) } o.dst (.tup []))
        | none=>False
      | _,_=>False
    | _=>False
  | .box ty x=>match acells (s.ev x) with
    | some cs=>K ((s.add (.boxP none ty cs)).put o.dst (.ptr s.N 0))
    | none=>False
  | .alloc ty=>match tyZero P ty with
    | some zs=>K ((s.add (.boxP none ty (zs.map fun v => .p (.val v)))).put o.dst (.ptr s.N 0))
    | none=>False
  | .store t x y=>match s.ev x with
    | .ptr tag off=>match s.hp.lookup tag with
      | some (.boxP pin ty cs)=>match acells (s.ev y) with
        | some ys=>(tySz P t=some ys.length∧off + ys.length≤cs.length∧o.dst=none)∧K { s with hp:=setHp s.hp tag (.boxP pin ty (asplice cs off ys)) }
        | none=>False
      | _=>False
    | .rptr tag n k off=>match s.hp.lookup tag,acells (s.ev y) with
      | some (.row e n' rows),some ys=>match rows[k]?,pureL ys with
        | some r,some ps=>(n' = n∧tySz P t=some ys.length∧off + ys.length≤n∧o.dst=none)∧K { s with hp:=setHp s.hp tag (.row e n (rows.set k (asplice r off ps))) }
        | _,_=>False
      | some (.arow e cs),some ys=>match ys with
        | [y1]=>(n=1∧off=0∧k < cs.length∧tySz P t=some 1∧o.dst=none)∧K { s with hp:=setHp s.hp tag (.arow e (cs.set k y1)) }
        | _=>False
      | _,_=>False
    | _=>False
  | .makeSlice t x y=>match s.ev x,s.ev y with
    | .p (.val (.int _ l)),.p (.val (.int _ l'))=>match elemTyB P t with
      | some (e,n,bytes)=>match tyZero P e with
        | some zs=>(l=l' ∧ 0≤l∧l.toNat≤maxLen∧bytes * l.toNat ≤ 140737488355328)∧K ((s.add (.row e n (List.replicate l.toNat (zs.map .val)))).put o.dst (.own s.N))
        | none=>False
      | none=>False
    | _,_=>False
  | .buildSlice t 0 ⟨[]⟩=>match elemTyB P t with
    | some (e,n,_)=>K ((s.add (.row e n [])).put o.dst (.own s.N))
    | none=>False
  | .call { callee := .builtin .append,args:=⟨[x,y]⟩,argTypes:=⟨[ty,ty']⟩ }=>match s.ev x,s.ev y with
    | .own tag,.p (.seq n ys)=>match s.hp.lookup tag,elemTyB P ty with
      | some (.row e m rows),some (e',m',bytes)=>(ty=ty' ∧ e=e' ∧ n=m∧m=m' ∧ rows.length + ys.length≤maxLen∧(rows.length + ys.length) * bytes ≤ 140737488355328)∧K (ASt.put { s.subst tag .junk with hp:=setHp (s.subst tag .junk).hp tag (.row e m (rows ++ ys)) } o.dst (.own tag))
      | _,_=>False
    | .p (.val (.slice none 0 0)),.p (.seq n ys)=>match elemTyB P ty with
      | some (e',m',bytes)=>(ty=ty' ∧ n=m' ∧ ys.length≤maxLen∧ys.length * bytes ≤ 140737488355328)∧K ((s.add (.row e' n ys)).put o.dst (.own s.N))
      | none=>False
    | _,_=>False
  | op=>match aop P s op with
    | some av=>K (s.put o.dst av)
    | none=>False
theorem WO.sound {P:Program} {ops:Array Oper} {Q:Exit→ASt→Prop} {rest:List Oper} {o:Oper} {s:ASt} (hw:Wants ops o s) (hd:dstOk o s) (h:WO P o s (TL P ops Q rest)):TL P ops Q (o :: rest) s:=by
  obtain ⟨dst,op,ty,pos,aft,gd⟩:=o
  unfold WO at h
  simp only at h
  split at h
  · rcases h with ⟨r,h1,h2⟩|h
    · exact TL.val hw r (h1.val rfl) hd.h h2
    · exact TL.effG hw (op_callM _ _ _ rfl h hd.h)
  · split at h
    · rename_i f caps hf
      rcases h with ⟨r,⟨h1,h2,h3⟩,h4⟩|h
      · exact TL.val hw r (op_callF _ f caps _ _ r rfl hf h1 h2 h3) hd.h h4
      · exact TL.effG hw (op_callMF _ f caps _ _ rfl hf h hd.h)
    · exact h.elim
  · split at h
    · rename_i k e z ht;exact TL.eff hw (op_makeMap _ k e z rfl ht hd.h) h
    · exact h.elim
  · split at h
    · rename_i tag hx
      split at h
      · rename_i pin P' k' n f k e z key hlk ht hi
        split at h
        · rename_i kl hk
          obtain ⟨⟨rfl,rfl,hK⟩,h⟩:=h
          refine TL.val hw _ (op_lookup _ _ _ _ tag n pin k' e z key kl f rfl ht hx hlk hK hi hk) hd.h h
        · exact h.elim
      · rename_i P' k' n f q k e z key hlk ht hi
        split at h
        · rename_i kl hk
          obtain ⟨⟨rfl,rfl,hK⟩,h⟩:=h
          refine TL.val hw _ (op_lookupA _ _ _ _ tag n k' e z key kl f q rfl ht hx hlk hK hi hk) hd.h h
        · exact h.elim
      · exact h.elim
    · exact h.elim
  · split at h
    · rename_i tag hx
      split at h
      · rename_i pin P' k' n f k e z key val hlk ht hi hy
        split at h
        · rename_i kl hk
          obtain ⟨⟨rfl,rfl,hK,hn,hd0⟩,h⟩:=h
          exact TL.eff hw (op_mapUpdate _ _ _ _ tag n pin k' e z key val kl f rfl ht hx hlk hK hi hk hy hn hd0) h
        · exact h.elim
      · rename_i P' k' n f q k e z key hlk ht hi
        split at h
        · rename_i kl hk
          obtain ⟨⟨rfl,rfl,hK,hn,hd0⟩,h⟩:=h
          exact TL.eff hw (op_mapUpdateA _ _ _ _ tag n k' e z key kl f q rfl ht hx hlk hK hi hk hn hd0) h
        · exact h.elim
      · exact h.elim
    · exact h.elim
  · split at h
    · rename_i tag hx
      split at h
      · rename_i P' k' n f q k e z key hlk ht hi
        split at h
        · rename_i kl hk
          obtain ⟨⟨rfl,rfl,hK,hn⟩,h⟩:=h
          exact TL.effG hw (op_mapEntry _ _ _ tag n k' e z key kl f q rfl ht hx hlk hK hi hk hn hd.h h)
        · exact h.elim
      · exact h.elim
    · exact h.elim
  · split at h
    · rename_i tag hx
      split at h
      · rename_i P' k' n f st kl k e z hlk ht
        obtain ⟨⟨rfl,rfl,hK,hn,hd0,hi⟩,h⟩:=h
        exact TL.eff hw (op_entryStore _ _ _ _ tag n st k' e z kl f rfl ht hx hlk hK hi hn hd0) h
      · exact h.elim
    · exact h.elim
  · split at h
    · rename_i tag hx
      split at h
      · rename_i pin P' k' n f k e z key hlk ht hi
        split at h
        · rename_i kl hk
          obtain ⟨⟨rfl,rfl,rfl,hK⟩,h⟩:=h
          exact TL.eff hw (op_delete _ _ _ _ tag n pin _ e z key kl f rfl rfl ht hx hlk hK hi hk hd.h) h
        · exact h.elim
      · exact h.elim
    · exact h.elim
  · split at h
    · rename_i tag hx
      split at h
      · rename_i pin P' k' n f k e z hlk ht
        obtain ⟨⟨rfl,rfl⟩,h⟩:=h
        exact TL.effG hw (op_range _ _ tag n pin k' e z f rfl ht hx hlk hd.h h)
      · exact h.elim
    · exact h.elim
  · split at h
    · rename_i ti hx
      obtain ⟨tm,r,b,since,c0,seen,es,ck,⟨h1,h2,h3,h4⟩,h5,h6⟩:=h
      exact TL.effG hw (op_next _ ti tm r b since c0 seen es ck rfl hx h1 h2 h3 h4 hd.h h5 h6)
    · exact h.elim
  · split at h
    · rename_i ti hx
      obtain ⟨tm,r,b,since,seen,es,ck,e,⟨h1,h2,h3,h4⟩,h⟩:=h
      exact TL.val hw _ (op_entry _ ti tm r b since seen es ck e rfl hx h1 h2 h3 h4) hd.h h
    · exact h.elim
  · split at h
    · rename_i tag n m hx
      split at h
      · rename_i e n' rows e' m' bytes hlk ht
        split at h
        · rename_i zs hz
          obtain ⟨⟨rfl,rfl,rfl,hm⟩,h⟩:=h
          exact TL.eff hw (op_clear _ _ tag m _ _ bytes zs rows rfl hx hlk ht hz hm hd.h) h
        · exact h.elim
      · exact h.elim
    · exact h.elim
  · split at h
    · rename_i cs hc;exact TL.eff hw (op_box _ _ cs rfl hc hd.h) h
    · exact h.elim
  · split at h
    · rename_i zs hz;exact TL.eff hw (op_alloc _ zs rfl hz hd.h) h
    · exact h.elim
  · split at h
    · rename_i tag off hx
      split at h
      · rename_i pin ty' cs hlk
        split at h
        · rename_i ys hy
          obtain ⟨⟨h1,h2,h3⟩,h4⟩:=h
          exact TL.eff hw (op_store _ _ _ tag off pin ty' cs ys rfl hx hlk hy h1 h2 h3) h4
        · exact h.elim
      · exact h.elim
    · rename_i tag n k off hx
      split at h
      · rename_i e n' rows ys hlk hy
        split at h
        · rename_i r ps hr hp
          obtain ⟨⟨rfl,h1,h2,h3⟩,h4⟩:=h
          exact TL.eff hw (op_storeR _ _ _ tag n' k off e rows r ys ps rfl hx hlk hr hy hp h1 h2 h3) h4
        · exact h.elim
      · rename_i e cs ys hlk hy
        split at h
        · rename_i y1
          obtain ⟨⟨rfl,rfl,hk,h1,h3⟩,h4⟩:=h
          exact TL.eff hw (op_storeA _ _ _ tag k e cs y1 rfl hx hlk hk hy h1 h3) h4
        · exact h.elim
      · exact h.elim
    · exact h.elim
  · split at h
    · rename_i k l k' l' hx hy
      split at h
      · rename_i e n bytes ht
        split at h
        · rename_i zs hz
          obtain ⟨⟨rfl,h1,h2,h3⟩,h4⟩:=h
          obtain ⟨m,rfl⟩ : ∃ m:Nat,l=m:=⟨l.toNat,by omega⟩
          simp only [Int.toNat_natCast] at h2 h3 h4
          exact TL.eff hw (op_makeS _ _ _ k k' e n bytes m zs rfl hx hy ht hz h2 h3 hd.h) h4
        · exact h.elim
      · exact h.elim
    · exact h.elim
  · split at h
    · rename_i e n bytes ht
      exact TL.eff hw (op_buildS0 _ e n bytes rfl ht hd.h) h
    · exact h.elim
  · split at h
    · rename_i tag n ys hx hy
      split at h
      · rename_i e m rows e' m' bytes hlk ht
        obtain ⟨⟨rfl,rfl,rfl,rfl,h1,h2⟩,h3⟩:=h
        exact TL.eff hw (op_append _ _ _ tag e n bytes rows ys rfl hx hlk ht hy h1 h2 hd.h) h3
      · exact h.elim
    · rename_i n ys hx hy
      split at h
      · rename_i e' m' bytes ht
        obtain ⟨⟨rfl,rfl,h1,h2⟩,h3⟩:=h
        exact TL.eff hw (op_appendN _ _ _ e' n bytes ys rfl hx ht hy h1 h2 hd.h) h3
      · exact h.elim
    · exact h.elim
  · split at h
    · rename_i av hav;exact TL.val hw av (aop_sound hav) hd.h h
    · exact h.elim
def WG (b want:Bool) (yes no:Prop):Prop:=(b=want→yes)∧(b=(!want)→no)
def WS (P:Program) (ds:List (Option Nat)) (o:Oper) (s:ASt) (K:ASt→Prop):Prop:=dstOk o s∧match o.guard with
  | none=>WO P o s K
  | some (g,want)=>match ds[g]? with
    | some (some t)=>match s.get t with
      | .p (.val (.bool b))=>WG b want (WO P o (s.put (some t) (.bool want)) K) (K ((s.put (some t) (.bool (!want))).put o.dst (.tup [])))
      | .tup []=>K (s.put o.dst (.tup []))
      | _=>False
    | _=>False
def WL (P:Program) (ds:List (Option Nat)) (Q:ASt→Prop):List Oper→ASt→Prop
  | [],s=>Q s
  | o :: rest,s=>WS P ds o s (WL P ds Q rest)
theorem WO.mono {P:Program} {o:Oper} {s:ASt} {K K' : ASt→Prop} (h : ∀ s,K s→K' s) (k:WO P o s K):WO P o s K':=by
  unfold WO at *
  repeat' (first
    | exact k.elim
    | exact h _ k
    | exact ⟨k.1,h _ k.2⟩
    | exact ⟨k.1,fun st=>h _ (k.2 st)⟩
    | exact let ⟨r,h1,h2⟩:=k;⟨r,h1,h _ h2⟩
    | exact k.imp (fun ⟨r,h1,h2⟩=>⟨r,h1,h _ h2⟩) (CallX.mono h)
    | exact ⟨k.1,fun b r es ck hm=>h _ (k.2 b r es ck hm)⟩
    | exact let ⟨a1,a2,a3,a4,a5,a6,a7,a8,h1,h2,h3⟩:=k;⟨a1,a2,a3,a4,a5,a6,a7,a8,h1,fun e=>h _ (h2 e),fun e he=>h _ (h3 e he)⟩
    | exact let ⟨a1,a2,a3,a4,a5,a6,a7,a8,h1,h2⟩:=k;⟨a1,a2,a3,a4,a5,a6,a7,a8,h1,h _ h2⟩
    | split at k)
theorem WS.mono {P:Program} {ds:List (Option Nat)} {o:Oper} {s:ASt} {K K' : ASt→Prop} (h : ∀ s,K s→K' s) (k:WS P ds o s K):WS P ds o s K':=by
  unfold WS at *
  refine ⟨k.1,?_⟩
  have k2:=k.2
  split at k2
  · exact WO.mono h k2
  · split at k2
    · split at k2
      · exact ⟨fun e=>WO.mono h (k2.1 e),fun e=>h _ (k2.2 e)⟩
      · exact h _ k2
      · exact k2.elim
    · exact k2.elim
structure Sq (s s' : ASt):Prop where
  hp:s'.hp=s.hp
  n:s'.n=s.n
  N:s'.N=s.N
  get : ∀ t,s'.get t=s.get t
theorem Sq.refl (s:ASt):Sq s s:=⟨rfl,rfl,rfl,fun _=>rfl⟩
theorem Sq.symm {s s' : ASt} (h:Sq s s'):Sq s' s:=⟨h.hp.symm,h.n.symm,h.N.symm,fun t=>(h.get t).symm⟩
theorem Sq.trans {s s' s'' : ASt} (h:Sq s s') (k:Sq s' s''):Sq s s'':=⟨k.hp.trans h.hp,k.n.trans h.n,k.N.trans h.N,fun t=>(k.get t).trans (h.get t)⟩
theorem Sq.put {s s' : ASt} (h:Sq s s') (d:Option Nat) (x:AV):Sq (s.put d x) (s'.put d x):=by
  cases d with
  | none=>exact h
  | some d=>exact ⟨h.hp,h.n,h.N,fun t=>by rw [ASt.get_put,ASt.get_put,h.get]⟩
theorem Sq.same {s:ASt} {t:Nat} {x:AV} (h:s.get t=x):Sq s (s.put (some t) x):=⟨rfl,rfl,rfl,fun k=>by
  rw [ASt.get_put]
  split
  · rename_i e;rw [e,h]
  · rfl⟩
theorem Sq.rel {X:Nat→Prop} {L:Lim} {s s' : ASt} {loc:Nat→Option Value} {a:Act} {w:World} (h:Sq s s') (r:Rel X L s loc a w):Rel X L s' loc a w :=
  ⟨r.defers,r.size.trans h.n.symm,fun t ht=>by rw [h.N,h.get];exact r.fr t ht,by rw [h.N,h.hp];exact r.hp⟩
theorem Sq.weak {s s' : ASt} (h:Sq s s'):Weak s s':=fun _ loc _ _ r=>⟨loc,h.rel r,Ext.refl _ _⟩
theorem Sq.val {P:Program} {ops:Array Oper} {o:Oper} {s s' : ASt} {av:AV} (h:Sq s s') (k:OpVal P ops o s av):OpVal P ops o s' av:=fun L loc a w r=>by
  have:=k L loc a w (h.symm.rel r)
  rw [h.N];exact this
theorem WL.sound {P:Program} {ops:Array Oper} {Q:Exit→ASt→Prop} : ∀ {l:List Oper} {s:ASt},WL P (ops.toList.map (·.dst)) (Q .normal) l s→TL P ops Q l s
  | [],_,h=>TL.nil h
  | o :: rest,s,h=>by
    obtain ⟨hd,h⟩:=h
    split at h
    · rename_i hg
      exact WO.sound (by simp [Wants,hg]) hd (WO.mono (fun s k=>WL.sound k) h)
    · rename_i g want hg
      split at h
      · rename_i t ht
        split at h
        · rename_i b hb
          have ht' : (ops[g]?).bind (·.dst)=some t:=by
            simp only [List.getElem?_map,Option.map_eq_some_iff,Array.getElem?_toList] at ht
            obtain ⟨o',h1,h2⟩:=ht
            rw [h1];exact h2
          by_cases hbw:b=want
          · have hw:=(Sq.same (s:=s) (t:=t) (x := .bool want) (by rw [hb,hbw])).weak
            exact TL.weak hw (WO.sound (by simp only [Wants,hg,ht',ASt.get_put,if_true]) (by unfold dstOk at hd ⊢;exact hd) (WO.mono (fun s k=>WL.sound k) (h.1 hbw)))
          · have hbn:b=(!want):=by cases b <;> cases want <;> simp_all
            have hw:=(Sq.same (s:=s) (t:=t) (x := .bool (!want)) (by rw [hb,hbn])).weak
            exact TL.weak hw (TL.skip (by simp only [Unwanted,hg,ht',ASt.get_put,if_true];exact .inl trivial) (WL.sound (h.2 hbn)) hd.h)
        · rename_i hb
          have ht' : (ops[g]?).bind (·.dst)=some t:=by
            simp only [List.getElem?_map,Option.map_eq_some_iff,Array.getElem?_toList] at ht
            obtain ⟨o',h1,h2⟩:=ht
            rw [h1];exact h2
          exact TL.skip (by simp only [Unwanted,hg,ht'];exact .inr hb) (WL.sound h) hd.h
        · exact h.elim
      · exact h.elim
theorem WL.step {P:Program} {ds:List (Option Nat)} {Q:ASt→Prop} {o:Oper} {rest:List Oper} {s:ASt} (h : ∀ K:ASt→Prop,(∀ s,WL P ds Q rest s→K s)→WS P ds o s K):WL P ds Q (o :: rest) s:=h _ fun _ h=>h
theorem WL.fin {P:Program} {ds:List (Option Nat)} {Q:ASt→Prop} {s:ASt} (h:Q s):WL P ds Q [] s:=h
theorem T.region' {F:Fence} [FOk F] {P:Program} {Q:Exit→ASt→Prop} {s:ASt} {id:Nat} {l:List Oper} (hd:noDefB l=true) (h:WL P (l.map (·.dst)) (Q .normal) l s):T F P (.region id l.toArray false) Q s:=T.region hd (WL.sound (ops:=l.toArray) (by rw [show NQ Q .normal=Q .normal from funext (NQ.normal Q)];simpa using h))
end Go.Proofs.Ytnckehomadnhoaa
