/- Texts Af, Ag, Ah, Al, Am, An. -/
import Derived.Maps.AppendAt
import Derived.Lib.AppendStr
import Derived.RangeFuncLeaves
import Derived.Test.YtdlgoofjechocaaGreatDoorZ01
set_option maxHeartbeats 32000000
set_option maxRecDepth 100000
set_option linter.unusedSimpArgs false
set_option linter.unusedVariables false
namespace Go.Proofs.YtdlgoofjechocaaGreatDoor
open Go.RowKit Go.Sort
def zO (loc:Nat→Option Value) (t:Nat) (u:Value):Nat→Option Value:=fun x=>if x=t then some u else loc x
theorem zG (loc:Nat→Option Value) (t:Nat) (u:Value):zO loc t u t=some u:=by simp [zO]
theorem zC (loc:Nat→Option Value) {t x:Nat} (u:Value) (h:x ≠ t):zO loc t u x=loc x:=by simp [zO,h]
def ASt.add (s:ASt) (o:AO):ASt := { s with hp:=(s.N,o) :: s.hp,N:=s.N+1 }
theorem ze {α:Type} {k t:Nat} {v : α} {l:List (Nat × α)} (h:k ≠ t):((t,v) :: l).lookup k=l.lookup k:=by
 have:(k==t)=false:=by simpa using h
 rw [List.lookup_cons,this]
theorem zi {α:Type} {t:Nat} {v : α} {l:List (Nat × α)} : ((t,v) :: l).lookup t=some v:=by simp
theorem HRel.z6X {L:Nat→Prop} {N:Nat} {hp:Hp} {loc:Nat→Option Value} {w:World} (h:HRel L N hp loc w) {t:Nat} (ht:N≤t):hp.lookup t=none:=by
 cases ho:hp.lookup t with
 | none=>rfl
 | some o=>have:=(h.at' t o ho).1;omega
theorem z1S {L:Nat→Prop} {loc:Nat→Option Value} {t:Nat} {u:Value} {b:Nat} (h:Dm L (zO loc t u) b):zP u=some b∨Dm L loc b:=by
 rcases h with h|⟨t',u',h1,h2⟩
 ·exact .inr (.inl h)
 ·by_cases e:t' = t
  ·subst e;rw [zG] at h1;cases h1;exact .inl h2
  ·rw [zC _ _ e] at h1;exact .inr (.inr ⟨t',u',h1,h2⟩)
theorem HRel.add {L:Nat→Prop} {N:Nat} {hp:Hp} {loc:Nat→Option Value} {w w' : World} (h:HRel L N hp loc w) (hb:Blw w.heap.size w w') (u:Value) (o:AO) (hu : ∀ b,zP u=some b→w.heap.size≤b)
  (ho:OR (N+1) (Dm L (zO loc N u)) (zO loc N u) w' u o):HRel L (N+1) ((N,o) :: hp) (zO loc N u) w':=by
 have hN:loc N=none:=h.dead N (h.z6X (Nat.le_refl _))
 have hDm : ∀ k,k<w.heap.size→Dm L (zO loc N u) k→Dm L loc k:=fun k hk hd=>(z1S hd).resolve_left fun e=>by have:=hu k e;omega
 have hlc : ∀ t v,t<N→zO loc N u t=some v→loc t=some v:=fun t v ht hv=>by rwa [zC _ _ (by omega)] at hv
 refine ⟨fun t o' ht=>?_,fun t ht=>?_,fun t t' v v' b h1 h2 e1 e2=>?_,fun b hL=>Nat.lt_of_lt_of_le (h.inL b hL) hb.size,fun t v b h1 e hL=>?_⟩
 ·by_cases e:t=N
  ·subst e
   rw [zi] at ht
   cases ht
   exact ⟨Nat.lt_succ_self _,u,zG _ _ _,ho⟩
  ·rw [ze e] at ht
   obtain ⟨h1,v,h2,h3⟩:=h.at' t o' ht
   exact ⟨Nat.lt_succ_of_lt h1,v,by rw [zC _ _ e];exact h2,h3.mono (Nat.le_succ _) (.of_below hb) hDm hlc (fun b hb'=>hb.block b (h3.z0G hb'))⟩
 ·by_cases e:t=N
  ·subst e;rw [zi] at ht;cases ht
  ·rw [ze e] at ht;rw [zC _ _ e];exact h.dead t ht
 ·by_cases ht:t=N
  ·by_cases ht' : t' = N
   ·rw [ht,ht']
   ·subst ht
    rw [zG] at h1;cases h1
    rw [zC _ _ ht'] at h2
    obtain ⟨o',_,ho'⟩:=h.z1G h2
    have:=ho'.z0G e2
    have:=hu b e1
    omega
  ·by_cases ht' : t' = N
   ·subst ht'
    rw [zG] at h2;cases h2
    rw [zC _ _ ht] at h1
    obtain ⟨o',_,ho'⟩:=h.z1G h1
    have:=ho'.z0G e1
    have:=hu b e2
    omega
   ·rw [zC _ _ ht] at h1
    rw [zC _ _ ht'] at h2
    exact h.apart t t' v v' b h1 h2 e1 e2
 ·by_cases ht:t=N
  ·subst ht
   rw [zG] at h1;cases h1
   have:=hu b e
   have:=h.inL b hL
   omega
  ·rw [zC _ _ ht] at h1;exact h.notL t v b h1 e hL
theorem Rel.add {X:Nat→Prop} {L:Lim} {s:ASt} {loc:Nat→Option Value} {a:Act} {w w' : World} (h:Rel X L s loc a w) (hb:Blw w.heap.size w w') (u:Value) (o:AO) (hu : ∀ b,zP u=some b→w.heap.size≤b)
  (ho:OR (s.N+1) (Dm L (zO loc s.N u)) (zO loc s.N u) w' u o):Rel X L (s.add o) (zO loc s.N u) a w' :=
 ⟨h.defers,h.size,fun t ht=>(h.fr t ht).mono (Nat.le_succ _) (.of_below hb) (fun k hk hd=>(z1S hd).resolve_left fun e=>by have:=hu k e;omega) (fun t v ht hv=>by rwa [zC _ _ (by omega)] at hv),h.hp.add hb u o hu ho⟩
theorem Ext.add {loc:Nat→Option Value} {w w' : World} (hb:Blw w.heap.size w w') (t:Nat) (u:Value) (hu : ∀ b,zP u=some b→w.heap.size≤b):Ext loc w (zO loc t u) w' :=
 ⟨.of_below hb,fun b hd=>(z1S hd).elim (fun e => .inr (hu b e)) .inl⟩
def z0q:AV→Option (List AV)
 | .agg cs=>some cs
 | .p x=>some [.p x]
 | .ptr t k=>some [.ptr t k]
 | .rptr t n k j=>some [.rptr t n k j]
 | .own t=>some [.own t]
 | .pre t m=>some [.pre t m]
 | .fn f cs=>some [.fn f cs]
 | .elt r k=>some [.elt r k]
 | .cap0=>some [.cap0]
 | _=>none
theorem z2B {N:Nat} {D:Nat→Prop} {loc:Nat→Option Value} {w:World} {x:AV} {cs:List AV} {v:Value} (h:AR N D loc w x v) (hc:z0q x=some cs) :
  v.cells.size=cs.length∧(∀ j y,cs[j]? = some y→AR N D loc w y (v.cells.getD j undef)) ∧ ∀ j,j<v.cells.size→(v.cells.getD j undef).oneCell' = true:=by
 have one : ∀ {y:AV},AR N D loc w y v→v.oneCell' = true→v.cells.size = [y].length∧(∀ j z,[y][j]? = some z→AR N D loc w z (v.cells.getD j undef)) ∧ ∀ j,j<v.cells.size→(v.cells.getD j undef).oneCell' = true:=fun {y} hy h1=>by
  have hv:v.cells = #[v]:=by cases v <;> first|rfl|cases h1
  rw [hv]
  refine ⟨rfl,fun j z hz=>?_,fun j hj=>?_⟩
  ·cases j with
   | zero=>cases hz;exact hy
   | succ j=>cases hz
  ·have:j=0:=by simp at hj;omega
   subst this;exact h1
 cases h with
 | p y v hp=>cases hc;exact one (.p y v hp) hp.one
 | elt row off b o f hb hnD hcl hr=>cases hc;exact one (.elt row off b o f hb hnD hcl hr) rfl
 | ptr t off v ht h1 h=>cases hc;exact one (.ptr t off v ht h1 h) h1
 | rptr t n k off v ht h1 h=>cases hc;exact one (.rptr t n k off v ht h1 h) h1
 | own t v ht h1 h=>cases hc;exact one (.own t v ht h1 h) h1
 | pre t m v ht h1 h=>cases hc;exact one (.pre t m v ht h1 h) h1
 | fn f caps vs hl h=>cases hc;exact one (.fn f caps vs hl h) rfl
 | agg cs' vs hl h h1=>cases hc;exact ⟨hl,h,h1⟩
 | cap0 a h=>cases hc;exact one (.cap0 a h) rfl
 | _=>cases hc
section
variable {P:Program} {ops:Array Oper} {o:Oper} {s:ASt}
theorem op_box (ty:TypeId) (x:Operand) (cs:List AV) (h:o.op = .box ty x) (hx:z0q (s.ev x)=some cs) (hd : ∀ t,o.dst=some t→t<s.n):z1t P o s ((s.add (.box ty cs)).put o.dst (.ptr s.N 0)):=fun L loc a w hr=>by
 have hb:Blw w.heap.size w (w.alloc (.cells (a.eval x).cells ty)):=(Blw.refl _ _).alloc (Nat.le_refl _) _
 have hax:=(hr.below hb).ev x (fun _ _=>trivial)
 have hu : ∀ b,zP (.pointer (some ⟨w.heap.size,0,none⟩))=some b→w.heap.size≤b:=fun b e=>by cases e;exact Nat.le_refl _
 have hax' : AR (s.N+1) (Dm L (zO loc s.N (.pointer (some ⟨w.heap.size,0,none⟩)))) (zO loc s.N (.pointer (some ⟨w.heap.size,0,none⟩))) (w.alloc (.cells (a.eval x).cells ty)) (s.ev x) (a.eval x) :=
  (hr.ev x (fun _ _=>trivial)).mono (Nat.le_succ _) (.of_below hb) (fun k hk hd=>(z1S hd).resolve_left fun e=>by have:=hu k e;omega) (fun t v ht hv=>by rwa [zC _ _ (by omega)] at hv)
 obtain ⟨h1,h2,h3⟩:=z2B hax' hx
 have hrun:(execOp a.eval o).run P w = .ok (.value (.pointer (some ⟨w.heap.size,0,none⟩))) (w.alloc (.cells (a.eval x).cells ty)):=by
  simp [execOp,h,Instr.box,newVar,newRow]
 unfold Oper.wp
 rw [hrun]
 refine ⟨zO loc s.N (.pointer (some ⟨w.heap.size,0,none⟩)),?_,.add hb _ _ hu⟩
 refine (hr.add hb _ (.box ty cs) hu ⟨w.heap.size,_,rfl,qD w _ _ rfl,h1,h2,h3,fun p e=>(by cases e)⟩).put' hd (.ptr s.N 0 _ (Nat.lt_succ_self _) rfl fun b hb'=>?_)
 rw [zG] at hb';cases hb';rfl
def zK (P:Program) (t:TypeId):Option (List Value):=match (P.info? t).bind (·.zero) with
 | some z=>if z.cells.all (·.oneCell') then some z.cells.toList else none
 | none=>none
theorem z97 (ty:TypeId) (zs:List Value) (h:o.op = .alloc ty) (hz:zK P ty=some zs) (hd : ∀ t,o.dst=some t→t<s.n):z1t P o s ((s.add (.box ty (zs.map fun v => .p (.val v)))).put o.dst (.ptr s.N 0)):=fun L loc a w hr=>by
 unfold zK at hz
 split at hz
 ·rename_i z hzz
  split at hz
  ·rename_i hone
   cases hz
   obtain ⟨i,hi,hiz⟩:=Option.bind_eq_some_iff.1 hzz
   have hone':=Array.all_eq_true_iff_forall_mem.1 hone
   have hb:Blw w.heap.size w (w.alloc (.cells z.cells ty)):=(Blw.refl _ _).alloc (Nat.le_refl _) _
   have hu : ∀ b,zP (.pointer (some ⟨w.heap.size,0,none⟩))=some b→w.heap.size≤b:=fun b e=>by cases e;exact Nat.le_refl _
   have hrun:(execOp a.eval o).run P w = .ok (.value (.pointer (some ⟨w.heap.size,0,none⟩))) (w.alloc (.cells z.cells ty)):=by
    simp [execOp,h,Instr.alloc,zeroValue,typeInfo,hi,hiz,newVar,newRow]
   unfold Oper.wp
   rw [hrun]
   refine ⟨zO loc s.N (.pointer (some ⟨w.heap.size,0,none⟩)),?_,.add hb _ _ hu⟩
   refine (hr.add hb _ (.box ty (z.cells.toList.map fun v => .p (.val v))) hu ⟨w.heap.size,_,rfl,qD w _ _ rfl,by simp,fun j x hx=>?_,fun j hj=>?_,fun p e=>(by cases e)⟩).put' hd (.ptr s.N 0 _ (Nat.lt_succ_self _) rfl fun b hb'=>?_)
   ·simp only [List.getElem?_map,Option.map_eq_some_iff] at hx
    obtain ⟨v,hv,rfl⟩:=hx
    have hv' : z.cells[j]? = some v:=by simpa using hv
    rw [Array.getD_eq_getD_getElem?,hv']
    exact .zV v (hone' v (Array.mem_of_getElem? hv'))
   ·rw [Array.getD_eq_getD_getElem?,Array.getElem?_eq_getElem hj]
    exact hone' _ (Array.getElem_mem hj)
   ·rw [zG] at hb';cases hb';rfl
  ·cases hz
 ·cases hz
def qf {α:Type} (cs:List α) (off:Nat) (xs:List α):List α:=cs.take off++xs++cs.drop (off+xs.length)
theorem qb {α:Type} {cs:List α} {off:Nat} {xs:List α} (h:off+xs.length≤cs.length) (j:Nat):(qf cs off xs)[j]? = if off≤j∧j<off+xs.length then xs[j-off]? else cs[j]?:=by
 unfold qf
 rw [List.append_assoc,List.getElem?_append,List.getElem?_append]
 simp only [List.length_take,Nat.min_eq_left (show off≤cs.length by omega)]
 by_cases h1:j<off
 ·rw [if_pos h1,if_neg (by omega),List.getElem?_take,if_pos h1]
 ·rw [if_neg h1]
  by_cases h2:j-off<xs.length
  ·rw [if_pos h2,if_pos (by omega)]
  ·rw [if_neg h2,if_neg (by omega),List.getElem?_drop]
   congr 1;omega
theorem qQ {α:Type} {cs:List α} {off:Nat} {xs:List α} (h:off+xs.length≤cs.length):(qf cs off xs).length=cs.length:=by
 simp [qf];omega
theorem z14 {b:Nat} : ∀ (vs:List Value) (off:Nat) (w:World) (arr:Array Value) (ty:TypeId) (fr:Nat × Nat),w.heap[b]? = some (.cells arr ty fr)→off+vs.length≤arr.size →
  ∃ arr' : Array Value,(w.setCells b off vs).heap[b]? = some (.cells arr' ty fr)∧arr'.toList=qf arr.toList off vs∧arr'.size=arr.size
 | [],off,w,arr,ty,fr,h,_=>⟨arr,h,by simp [qf],rfl⟩
 | v :: r,off,w,arr,ty,fr,h,hl=>by
  simp only [List.length_cons] at hl
  have h1:(w.setCell ⟨b,off,none⟩ v).heap[b]? = some (.cells (arr.setIfInBounds off v) ty fr):=by
   simp [World.setCell,Array.getElem?_modify,h]
  obtain ⟨arr',h2,h3,h4⟩:=z14 r (off+1) _ _ ty fr h1 (by simp;omega)
  refine ⟨arr',h2,?_,by simpa using h4⟩
  rw [h3]
  apply List.ext_getElem?
  intro j
  rw [qb (by simp;omega),qb (by simp;omega)]
  simp only [List.length_cons,Array.getElem?_toList,Array.getElem?_setIfInBounds]
  by_cases e1:off+1≤j∧j<off+1+r.length
  ·rw [if_pos e1,if_pos (by omega)]
   rw [show j-off=(j-(off+1))+1 by omega];rfl
  ·rw [if_neg e1]
   by_cases e2:off=j
   ·subst e2
    rw [if_pos rfl,if_pos (by omega),if_pos (by omega)]
    simp
   ·rw [if_neg e2,if_neg (by omega)]
theorem z3d {b k:Nat} (h:k ≠ b) : ∀ (vs:List Value) (off:Nat) (w:World),(w.setCells b off vs).heap[k]? = w.heap[k]?
 | [],_,_=>rfl
 | v :: r,off,w=>by rw [World.setCells,z3d h r];exact Below.heap_setCell _ _ _ _ h
theorem setCells_size {b:Nat} : ∀ (vs:List Value) (off:Nat) (w:World),(w.setCells b off vs).heap.size=w.heap.size
 | [],_,_=>rfl
 | v :: r,off,w=>by rw [World.setCells,setCells_size r];simp [World.setCell]
theorem z07 {b:Nat} {D:Nat→Prop} (hD:D b) (vs:List Value) (off:Nat) (w:World):Kp D w (w.setCells b off vs):=by
 have h : ∀ (vs:List Value) (off:Nat) (w:World),(w.setCells b off vs).os=w.os∧(w.setCells b off vs).tape=w.tape∧(w.setCells b off vs).output=w.output:=by
  intro vs
  induction vs with
  | nil=>intro _ _;exact ⟨rfl,rfl,rfl⟩
  | cons v r ih=>intro off w;exact ih (off+1) _
 obtain ⟨h1,h2,h3⟩:=h vs off w
 exact ⟨h1,h2,h3,by rw [setCells_size];exact Nat.le_refl _,fun k _ hn=>z3d (fun e=>hn (by rw [e];exact hD)) vs off w⟩
def zF (hp:Hp) (t:Nat) (o:AO):Hp:=hp.map fun p=>if p.1=t then (t,o) else p
theorem zB (hp:Hp) (t k:Nat) (o:AO):(zF hp t o).lookup k=if k=t then (hp.lookup t).map (fun _=>o) else hp.lookup k:=by
 induction hp with
 | nil=>simp [zF]
 | cons p r ih =>
  obtain ⟨j,oj⟩:=p
  simp only [zF,List.map_cons] at ih ⊢
  by_cases e:j=t
  ·subst e
   by_cases ek:k=j
   ·subst ek;simp
   ·simp only [if_true]
    rw [ze ek,ih,if_neg ek,if_neg ek,ze ek]
  ·simp only [if_neg e]
   by_cases ek:k=j
   ·subst ek;rw [zi,if_neg e,zi]
   ·rw [ze ek,ih]
    by_cases ekt:k=t
    ·subst ekt;rw [if_pos rfl,if_pos rfl,ze ek]
    ·rw [if_neg ekt,if_neg ekt,ze ek]
theorem HRel.turn {L:Nat→Prop} {N:Nat} {hp:Hp} {loc:Nat→Option Value} {w w' : World} (h:HRel L N hp loc w) {t:Nat} {u:Value} {o o' : AO} {b:Nat} (ht:hp.lookup t=some o) (hu:loc t=some u) (hb:zP u=some b)
  (hk:Kp (fun k=>k=b) w w') (ho:OR N (Dm L loc) loc w' u o'):HRel L N (zF hp t o') loc w':=by
 have hDb:Dm L loc b := .inr ⟨t,u,hu,hb⟩
 refine ⟨fun k ok hk'=>?_,fun k hk'=>?_,h.apart,fun b hL=>Nat.lt_of_lt_of_le (h.inL b hL) hk.size,h.notL⟩
 ·rw [zB] at hk'
  by_cases e:k=t
  ·subst e
   rw [if_pos rfl,ht] at hk'
   cases hk'
   exact ⟨(h.at' k o ht).1,u,hu,ho⟩
  ·rw [if_neg e] at hk'
   obtain ⟨h1,v,h2,h3⟩:=h.at' k ok hk'
   refine ⟨h1,v,h2,h3.mono (Nat.le_refl _) (D':=Dm L loc) ⟨hk.os,hk.tape,hk.output,hk.size,fun x hx hn=>hk.block x hx (fun e=>hn (e ▸ hDb))⟩ (fun _ _ h=>h) (fun _ _ _ h=>h) (fun b' hb'=>hk.block b' (h3.z0G hb') (fun e'=>?_))⟩
   subst e'
   exact e (h.apart k t v u b' h2 hu hb' hb)
 ·rw [zB] at hk'
  by_cases e:k=t
  ·subst e;rw [if_pos rfl,ht] at hk';cases hk'
  ·rw [if_neg e] at hk';exact h.dead k hk'
theorem Rel.turn {L:Lim} {s:ASt} {loc:Nat→Option Value} {a:Act} {w w' : World} (h:Rel All L s loc a w) {t:Nat} {u:Value} {o o' : AO} {b:Nat} (ht:s.hp.lookup t=some o) (hu:loc t=some u) (hb:zP u=some b)
  (hk:Kp (fun k=>k=b) w w') (ho:OR s.N (Dm L loc) loc w' u o'):Rel All L { s with hp:=zF s.hp t o' } loc a w' :=
 have hDb:Dm L loc b := .inr ⟨t,u,hu,hb⟩
 ⟨h.defers,h.size,fun x hx=>(h.fr x hx).mono (Nat.le_refl _) (D':=Dm L loc) ⟨hk.os,hk.tape,hk.output,hk.size,fun x hx hn=>hk.block x hx (fun e=>hn (e ▸ hDb))⟩ (fun _ _ h=>h) (fun _ _ _ h=>h),h.hp.turn ht hu hb hk ho⟩
theorem Ext.turn {loc:Nat→Option Value} {w w' : World} {t:Nat} {u:Value} {b:Nat} (hu:loc t=some u) (hb:zP u=some b) (hk:Kp (fun k=>k=b) w w'):Ext loc w loc w' :=
 ⟨⟨hk.os,hk.tape,hk.output,hk.size,fun x hx hn=>hk.block x hx (fun e=>hn (e ▸ .inr ⟨t,u,hu,hb⟩))⟩,fun _ h => .inl h⟩
theorem z2F {b off:Nat} {t:TypeId} {v:Value} {w:World} {arr:Array Value} {ty:TypeId} (hh:w.heap[b]? = some (.cells arr ty (0,0))) (hs:tySz P t=some v.cells.size) (hl:off+v.cells.size≤arr.size) (h1 : ∀ j,j<v.cells.size→(v.cells.getD j undef).oneCell' = true) :
  (Instr.storeAt t (.pointer (some ⟨b,off,none⟩)) v).run P w = .ok () (w.setCells b off v.cells.toList):=by
 have hst:=run_storeCells_cells (P:=P) b off v.cells.toList 0 w (fun j hj=>by
   simp only [Array.length_toList] at hj
   rw [Nat.add_zero,z15 hh,Array.getElem?_eq_getElem (by omega)];rfl) (fun j _=>by simp [World.frozen?,hh]) (fun x hx=>by
   obtain ⟨j,hj,rfl⟩:=List.mem_iff_getElem.1 hx
   simp only [Array.length_toList] at hj
   have:=h1 j hj
   rw [Array.getD_eq_getD_getElem?,Array.getElem?_eq_getElem hj] at this
   simpa using this)
 obtain ⟨i,hi,hsz⟩:=Option.map_eq_some_iff.1 hs
 simp only [Nat.add_zero] at hst
 simp [Instr.storeAt,Instr.sureAddr,storeVar,sizeOf,typeInfo,hi,hsz,hst]
theorem z8S (t:TypeId) (x y:Operand) (tag off:Nat) (pin:Option Nat) (ty:TypeId) (cs ys:List AV) (h:o.op = .store t x y) (hx:s.ev x = .ptr tag off) (hlk:s.hp.lookup tag=some (.boxP pin ty cs)) (hy:z0q (s.ev y)=some ys) (hsz:tySz P t=some ys.length)
  (hl:off+ys.length≤cs.length) (hd:o.dst=none):z1t P o s { s with hp:=zF s.hp tag (.boxP pin ty (qf cs off ys)) }:=fun L loc a w hr=>by
 have h1:=hr.ev x (fun _ _=>trivial)
 have h2:=hr.ev y (fun _ _=>trivial)
 rw [hx] at h1
 obtain ⟨_,u,hu,hor⟩:=hr.hp.at' tag _ hlk
 have hor':=hor
 obtain ⟨b,arr,rfl,hh,hasz,hcs,hone,hpin⟩:=hor
 obtain ⟨k1,k2,k3⟩:=z2B h2 hy
 generalize hax:a.eval x=ax at h1
 cases h1 with
 | ptr _ _ _ _ _ hv =>
 obtain rfl:=hv b hu
 have hrun:=z2F (P:=P) (off:=off) (v:=a.eval y) hh (by rw [k1];exact hsz) (by rw [k1,hasz];exact hl) k3
 obtain ⟨arr',g1,g2,g3⟩:=z14 (a.eval y).cells.toList off w arr ty (0,0) hh (by simp;omega)
 have hk:Kp (fun k=>k=b) w (w.setCells b off (a.eval y).cells.toList):=z07 (D:=fun k=>k=b) rfl _ _ _
 have hDb:Dm L loc b := .inr ⟨tag,_,hu,rfl⟩
 have hkd:Kp (Dm L loc) w (w.setCells b off (a.eval y).cells.toList):=z07 hDb _ _ _
 have hget : ∀ j,arr'.getD j undef=if off≤j∧j<off+ys.length then (a.eval y).cells.getD (j-off) undef else arr.getD j undef:=fun j=>by
  rw [Array.getD_eq_getD_getElem?,← Array.getElem?_toList,g2,qb (by simp;omega)]
  simp only [Array.length_toList,k1]
  split
  ·rw [Array.getElem?_toList,Array.getD_eq_getD_getElem?]
  ·rw [Array.getElem?_toList,Array.getD_eq_getD_getElem?]
 unfold Oper.wp
 have he:(execOp a.eval o).run P w = .ok .skip (w.setCells b off (a.eval y).cells.toList):=by simp [execOp,h,hax,hrun]
 rw [he]
 simp only [Oper.upon,hd]
 refine ⟨loc,?_,.turn hu rfl hk⟩
 refine hr.turn hlk hu rfl hk ⟨b,arr',rfl,g1,by rw [g3,qQ hl,hasz],fun j z hz=>?_,fun j hj=>?_,hpin⟩
 ·rw [hget]
  rw [qb hl] at hz
  split
  ·rename_i hc
   rw [if_pos hc] at hz
   exact (k2 _ z hz).mono (Nat.le_refl _) hkd (fun _ _ h=>h) (fun _ _ _ h=>h)
  ·rename_i hc
   rw [if_neg hc] at hz
   exact (hcs _ z hz).mono (Nat.le_refl _) hkd (fun _ _ h=>h) (fun _ _ _ h=>h)
 ·rw [hget]
  split
  ·exact k3 _ (by omega)
  ·exact hone j (by omega)
end
def AV.sub (t:Nat) (y:AV):AV→AV
 | .own t'=>if t' = t then y else .own t'
 | .pre t' m=>if t' = t then .zA else .pre t' m
 | .suf t' n m=>if t' = t then .zA else .suf t' n m
 | .ptr t' k=>if t' = t then .zA else .ptr t' k
 | .rptr t' n k j=>if t' = t then .zA else .rptr t' n k j
 | .fn f cs => .fn f (cs.attach.map fun ⟨c,_⟩=>AV.sub t y c)
 | .agg cs => .agg (cs.attach.map fun ⟨c,_⟩=>AV.sub t y c)
 | .tup cs => .tup (cs.attach.map fun ⟨c,_⟩=>AV.sub t y c)
 | x=>x
theorem AV.z5K (t:Nat) (y:AV) (f:Fn) (cs:List AV):AV.sub t y (.fn f cs) = .fn f (cs.map (AV.sub t y)):=by simp [AV.sub]
theorem AV.z4l (t:Nat) (y:AV) (cs:List AV):AV.sub t y (.agg cs) = .agg (cs.map (AV.sub t y)):=by simp [AV.sub]
theorem AV.z3i (t:Nat) (y:AV) (cs:List AV):AV.sub t y (.tup cs) = .tup (cs.map (AV.sub t y)):=by simp [AV.sub]
theorem AV.z1b (n:Nat) (f:Fn) (cs:List AV):(AV.fn f cs).okB n=cs.all (AV.okB n):=by simp [AV.okB]
theorem AV.z0b (n:Nat) (cs:List AV):(AV.agg cs).okB n=cs.all (AV.okB n):=by simp [AV.okB]
theorem AV.z4P (n:Nat) (cs:List AV):(AV.tup cs).okB n=cs.all (AV.okB n):=by simp [AV.okB]
theorem AR.sub {N N' : Nat} {D D' : Nat→Prop} {loc loc' : Nat→Option Value} {w w' : World} {t:Nat} {y:AV} {x:AV} {v:Value} (h:AR N D loc w x v) (hN:N≤N') (hk:Kp D w w') (hD : ∀ k,k<w.heap.size→D' k→D k)
  (hl : ∀ k u,k<N→k ≠ t→loc' k=some u→loc k=some u) (hy : ∀ v,v.oneCell' = true→(∀ u,loc t=some u→v=u)→AR N' D' loc' w' y v):AR N' D' loc' w' (AV.sub t y x) v:=by
 induction h with
 | p x v h=>simp only [AV.sub];exact .p x v (h.mono hk hD)
 | elt row off b o f hb hnD hc hr=>simp only [AV.sub];exact .elt row off b o f (Nat.lt_of_lt_of_le hb hk.size) (fun h=>hnD (hD _ hb h)) (fun j x h1=>(hk.cell hb hnD).trans (hc j x h1)) (fun j x h1=>(hr j x h1).mono hk hD)
 | ptr t' off v ht h1 h =>
  simp only [AV.sub]
  split
  ·exact .zA _
  ·rename_i e;exact .ptr t' off v (Nat.lt_of_lt_of_le ht hN) h1 fun b hb=>h b (hl t' _ ht e hb)
 | rptr t' n k j v ht h1 h =>
  simp only [AV.sub]
  split
  ·exact .zA _
  ·rename_i e;exact .rptr t' n k j v (Nat.lt_of_lt_of_le ht hN) h1 fun b l c hb=>h b l c (hl t' _ ht e hb)
 | own t' v ht h1 h =>
  simp only [AV.sub]
  split
  ·rename_i e;subst e;exact hy v h1 h
  ·rename_i e;exact .own t' v (Nat.lt_of_lt_of_le ht hN) h1 fun u hu=>h u (hl t' u ht e hu)
 | pre t' m v ht h1 h =>
  simp only [AV.sub]
  split
  ·exact .zA _
  ·rename_i e;exact .pre t' m v (Nat.lt_of_lt_of_le ht hN) h1 fun b l c hb=>h b l c (hl t' _ ht e hb)
 | suf t' n m v ht h1 h =>
  simp only [AV.sub]
  split
  ·exact .zA _
  ·rename_i e;exact .suf t' n m v (Nat.lt_of_lt_of_le ht hN) h1 fun b l c hb=>h b l c (hl t' _ ht e hb)
 | fn f caps vs hlen _ ih =>
  rw [AV.z5K]
  refine .fn f _ vs (by simpa using hlen) fun j x hx=>?_
  simp only [List.getElem?_map,Option.map_eq_some_iff] at hx
  obtain ⟨c,hc,rfl⟩:=hx
  exact ih j c hc
 | agg cs vs hlen _ h1 ih =>
  rw [AV.z4l]
  refine .agg _ vs (by simpa using hlen) (fun j x hx=>?_) h1
  simp only [List.getElem?_map,Option.map_eq_some_iff] at hx
  obtain ⟨c,hc,rfl⟩:=hx
  exact ih j c hc
 | tup cs vs hlen _ ih =>
  rw [AV.z3i]
  refine .tup _ vs (by simpa using hlen) fun j x hx=>?_
  simp only [List.getElem?_map,Option.map_eq_some_iff] at hx
  obtain ⟨c,hc,rfl⟩:=hx
  exact ih j c hc
 | cap0 a h=>simp only [AV.sub];exact .cap0 a fun x hx=>⟨Nat.lt_of_lt_of_le (h x hx).1 hk.size,fun hd=>(h x hx).2.1 (hD _ (h x hx).1 hd),(h x hx).2.2⟩
 | zA v=>simp only [AV.sub];exact .zA v
def AO.sub (t:Nat) (y:AV):AO→AO
 | .boxP pin ty cs => .boxP pin ty (cs.map (AV.sub t y))
 | .map pin P k n f => .map pin P k n f
 | .raw u ob => .raw u ob
 | .lrec l sp fr => .lrec l sp (fr.map fun p=>(p.1,AV.sub t y p.2))
 | .amap P k n f q => .amap P k n (fun l=>(f l).map (AV.sub t y)) q
 | .arow e cs => .arow e (cs.map (AV.sub t y))
 | .row e n rows => .row e n rows
theorem zI {α β:Type} (f : α → β) (l:List (Nat × α)) (k:Nat):(l.map fun p=>(p.1,f p.2)).lookup k=(l.lookup k).map f:=by
 induction l with
 | nil=>rfl
 | cons p r ih =>
  obtain ⟨j,x⟩:=p
  simp only [List.map_cons]
  by_cases e:k=j
  ·subst e;rw [zi,zi];rfl
  ·rw [ze e,ze e,ih]
def ASt.subst (s:ASt) (t:Nat) (y:AV):ASt := { s with fr:=s.fr.map fun p=>(p.1,AV.sub t y p.2),hp:=s.hp.map fun p=>(p.1,p.2.sub t y) }
theorem ASt.z5f (s:ASt) (t k:Nat) (y:AV):(s.subst t y).get k=AV.sub t y (s.get k):=by
 simp only [ASt.get,ASt.subst,zI]
 cases s.fr.lookup k <;> simp [AV.sub]
theorem OR.sub {N N' : Nat} {D D' : Nat→Prop} {loc loc' : Nat→Option Value} {w w' : World} {u:Value} {o:AO} {t:Nat} {y:AV} (h:OR N D loc w u o) (hN:N≤N') (hk:Kp D w w') (hD : ∀ k,k<w.heap.size→D' k→D k)
  (hl : ∀ k u,k<N→k ≠ t→loc' k=some u→loc k=some u) (hy : ∀ v,v.oneCell' = true→(∀ u,loc t=some u→v=u)→AR N' D' loc' w' y v) (hb : ∀ b,zP u=some b→w'.heap[b]? = w.heap[b]?):OR N' D' loc' w' u (o.sub t y):=by
 cases o with
 | map pin P k n f =>
  obtain ⟨b,D,rfl,⟨es,ck,h1,h2⟩,h3⟩:=h
  exact ⟨b,D,rfl,⟨es,ck,(hb b rfl).trans h1,h2⟩,h3⟩
 | amap P k n f q =>
  obtain ⟨b,DD,g,rfl,⟨es,ck,h1,h2⟩,h3,h4,h5⟩:=h
  refine ⟨b,DD,g,rfl,⟨es,ck,(hb b rfl).trans h1,h2⟩,h3,fun kl=>⟨fun x hx=>?_,fun hx=>(h4 kl).2 (by simpa using hx)⟩,h5.mono (hb b rfl)⟩
  obtain ⟨x',hx',rfl⟩:=Option.map_eq_some_iff.1 hx
  obtain ⟨v,k1,k2⟩:=(h4 kl).1 x' hx'
  exact ⟨v,k1,k2.sub hN hk hD hl hy⟩
 | arow e cs =>
  obtain ⟨flat,h1,h3,h4⟩:=h
  refine ⟨flat,by rw [List.length_map];exact z0x h1 fun g hg=>hb g (by
   cases u <;> simp [Value.ownBlock] at hg
   rename_i ad _ _
   cases ad <;> simp at hg
   simp [zP,hg]),fun j x hx=>?_,h4⟩
  simp only [List.getElem?_map,Option.map_eq_some_iff] at hx
  obtain ⟨c,hc,rfl⟩:=hx
  obtain ⟨v,h5,h6⟩:=h3 j c hc
  exact ⟨v,h5,h6.sub hN hk hD hl hy⟩
 | raw v ob =>
  obtain ⟨b,rfl,h1,h2⟩:=h
  exact ⟨b,rfl,h1,(hb b h1).trans h2⟩
 | lrec l sp fr =>
  obtain ⟨rfl,tmps,h1,h2,h3⟩:=h
  refine ⟨rfl,tmps,(hb l rfl).trans h1,h2,fun k=>?_⟩
  rw [zI]
  have h4:=h3 k
  cases hf:fr.lookup k with
  | none=>exact .zA _
  | some x=>rw [hf] at h4;exact h4.sub hN hk hD hl hy
 | boxP pin ty cs =>
  obtain ⟨b,arr,rfl,h1,h2,h3,h4⟩:=h
  refine ⟨b,arr,rfl,(hb b rfl).trans h1,by simpa [AO.sub] using h2,fun j x hx=>?_,h4⟩
  simp only [List.getElem?_map,Option.map_eq_some_iff] at hx
  obtain ⟨c,hc,rfl⟩:=hx
  exact (h3 j c hc).sub hN hk hD hl hy
 | row e n rows =>
  obtain ⟨flat,h1,h2,h3,h4⟩:=h
  refine ⟨flat,z0x h1 fun g hg=>hb g ?_,h2,fun k r j x hr hx=>?_,h4⟩
  ·cases u <;> simp [Value.ownBlock] at hg
   rename_i ad _ _
   cases ad <;> simp at hg
   simp [zP,hg]
  ·obtain ⟨v,h5,h6⟩:=h3 k r j x hr hx
   exact ⟨v,h5,h6.mono hk hD⟩
theorem PR.flat {D:Nat→Prop} {w:World} {n:Nat} {ys:List (List PV)} {v:Value} (h:PR D w (.seq n ys) v) : ∃ (ad:Option Addr) (c:Nat) (news:List Value),v = .slice ad ys.length c∧(ad=none→c=0∧ys = [])∧news.length=ys.length*n∧(∀ a,ad=some a → ∀ (j:Nat) u,news[j]? = some u→w.cell? (a.add j)=some u)∧(∀ u ∈ news,u.oneCell' = true) ∧
  (∀ r ∈ ys,r.length=n) ∧ ∀ (k:Nat) r (j:Nat) x,ys[k]? = some r→r[j]? = some x → ∃ v,news[k*n+j]? = some v∧PR D w x v:=by
 cases h with
 | nil n a cap h0=>exact ⟨a,cap,[],rfl,fun e=>⟨h0 e,rfl⟩,by simp,fun a' e j u hu=>(by simp at hu),fun u hu=>(by cases hu),fun r hr=>(by cases hr),fun k r j x h=>(by simp at h)⟩
 | seq n b off cap rows f hb hnD hcap hmax hn hc hr =>
  have hidx : ∀ j,j<ys.length*n → ∃ r x,ys[j / n]? = some r∧r[j % n]? = some x:=fun j hj=>by
   have hn0 : 0<n:=Nat.pos_of_ne_zero fun e=>by subst e;simp at hj
   have h1:j / n<ys.length:=Nat.div_lt_of_lt_mul (by rwa [Nat.mul_comm])
   have h2:j % n<ys[j / n].length:=by rw [hn _ (List.getElem_mem h1)];exact Nat.mod_lt _ hn0
   exact ⟨_,_,List.getElem?_eq_getElem h1,List.getElem?_eq_getElem h2⟩
  refine ⟨some ⟨b,off,none⟩,cap,(List.range (ys.length*n)).map fun j=>f (j / n) (j % n),rfl,fun e=>(by cases e),by simp,fun a e j u hu=>?_,fun u hu=>?_,hn,fun k r j x hk hx=>?_⟩
  ·cases e
   simp only [List.getElem?_map,Option.map_eq_some_iff] at hu
   obtain ⟨j',hj',rfl⟩:=hu
   obtain ⟨hlt,rfl⟩:=List.getElem?_eq_some_iff.1 hj'
   simp only [List.length_range] at hlt
   simp only [List.getElem_range]
   obtain ⟨r,x,h1,h2⟩:=hidx j hlt
   rw [Addr.add_mid,← hc _ r _ x h1 h2]
   congr 2
   have:=Nat.div_add_mod j n
   rw [Nat.mul_comm] at this
   omega
  ·obtain ⟨j,hj,rfl⟩:=List.mem_map.1 hu
   obtain ⟨r,x,h1,h2⟩:=hidx j (List.mem_range.1 hj)
   exact (hr _ r _ x h1 h2).one
  ·have hkl:=(List.getElem?_eq_some_iff.1 hk).1
   have hjl:=(List.getElem?_eq_some_iff.1 hx).1
   rw [hn r (List.mem_of_getElem? hk)] at hjl
   have hlt:k*n+j<ys.length*n:=by
    have:(k+1)*n≤ys.length*n:=Nat.mul_le_mul_right n hkl
    rw [Nat.add_mul] at this
    omega
   refine ⟨f k j,?_,hr k r j x hk hx⟩
   rw [List.getElem?_map,List.getElem?_range hlt]
   have e1:(k*n+j) / n=k:=by rw [Nat.mul_comm,Nat.mul_add_div (by omega),Nat.div_eq_of_lt hjl];rfl
   have e2:(k*n+j) % n=j:=by rw [Nat.mul_comm,Nat.mul_add_mod,Nat.mod_eq_of_lt hjl]
   simp [e1,e2]
theorem z2n {D:Nat→Prop} {w:World} {n:Nat} {rows ys:List (List PV)} {flat news:List Value} (hl:flat.length=rows.length*n) (h1 : ∀ (k:Nat) r (j:Nat) x,rows[k]? = some r→r[j]? = some x → ∃ v,flat[k*n+j]? = some v∧PR D w x v)
  (h2 : ∀ (k:Nat) r (j:Nat) x,ys[k]? = some r→r[j]? = some x → ∃ v,news[k*n+j]? = some v∧PR D w x v) : ∀ (k:Nat) r (j:Nat) x,(rows++ys)[k]? = some r→r[j]? = some x → ∃ v,(flat++news)[k*n+j]? = some v∧PR D w x v:=fun k r j x hk hx=>by
 rw [List.getElem?_append] at hk
 split at hk
 ·rename_i hlt
  obtain ⟨v,h3,h4⟩:=h1 k r j x hk hx
  exact ⟨v,by rw [List.getElem?_append,if_pos (List.getElem?_eq_some_iff.1 h3).1];exact h3,h4⟩
 ·rename_i hge
  obtain ⟨v,h3,h4⟩:=h2 _ r j x hk hx
  refine ⟨v,?_,h4⟩
  have:rows.length*n≤k*n:=Nat.mul_le_mul_right n (by omega)
  rw [List.getElem?_append,if_neg (by omega),hl,← h3]
  congr 1
  rw [Nat.sub_mul]
  omega
structure ElemTy (P:Program) (t:TypeId) (e n bytes:Nat):Prop where
 h : ∃ i z,P.underlying t=some (.slice e)∧P.info? e=some i∧i.zero=some z∧i.size=n∧i.bytes=bytes∧z.cells.size=n ∧ 0<n
def zW (P:Program) (t:TypeId):Option (Nat × Nat × Nat):=match P.underlying t with
 | some (.slice e)=>match P.info? e with
  | some i=>match i.zero with
   | some z=>if z.cells.size=i.size ∧ 0<i.size then some (e,i.size,i.bytes) else none
   | none=>none
  | none=>none
 | _=>none
theorem z0A {P:Program} {t:TypeId} {e n bytes:Nat} (h:zW P t=some (e,n,bytes)):ElemTy P t e n bytes:=by
 unfold zW at h
 split at h
 ·rename_i e' hu
  split at h
  ·rename_i i hi
   split at h
   ·rename_i z hz
    split at h
    ·rename_i hc
     cases h
     exact ⟨i,z,hu,hi,hz,rfl,rfl,hc.1,hc.2⟩
    ·cases h
   ·cases h
  ·cases h
 ·cases h
theorem z0Y {P:Program} {t ty:TypeId} {e n bytes:Nat} (ht:ElemTy P t e n bytes) {w:World} {v:Value} {m:Nat} {xs:List Value} (hown:w.ownsRow 0 e n v m xs) {D:Nat→Prop} {ys:List (List PV)} {u:Value} (hu:PR D w (.seq n ys) u)
  (h63:m+ys.length≤maxLen) (hbytes:(m+ys.length)*bytes≤140737488355328) : ∃ (v' : Value) (w' : World) (news:List Value),(Builtin.append_ #[t,t] ty #[v,u]).run P w = .ok v' w' ∧ w'.ownsRow 0 e n v' (m+ys.length) (xs++news)∧w.grownBy w' v.ownBlock∧(v'.ownBlock=v.ownBlock∨v'.ownBlock=some w.heap.size) ∧
   (∀ u ∈ news,u.oneCell' = true)∧(∀ r ∈ ys,r.length=n) ∧ ∀ (k:Nat) r (j:Nat) x,ys[k]? = some r→r[j]? = some x → ∃ v,news[k*n+j]? = some v∧PR D w x v:=by
 obtain ⟨i,z,hu',hi,hz,hsz,hby,hzs,hn0⟩:=ht.h
 obtain ⟨ad,c,news,rfl,hnil,hlen,hcell,hone,hrn,hpr⟩:=hu.flat
 cases ad with
 | none =>
  obtain ⟨rfl,rfl⟩:=hnil rfl
  have:news = []:=List.eq_nil_of_length_eq_zero (by simpa using hlen)
  subst this
  exact ⟨v,w,[],run_append_owned_none (P:=P) (w:=w) 0 t ty e i n hu' hi v m xs hown,by simpa using hown,⟨rfl,rfl,rfl,Nat.le_refl _,fun _ _ _=>rfl⟩,.inl rfl,hone,hrn,hpr⟩
 | some a =>
  obtain ⟨v',w',hr',h2,h3,_,h5⟩:=run_append_own_at (P:=P) w 0 t ty e i z n bytes hu' hi hz hsz hby hzs hn0 v m xs hown a ys.length c news hlen (hcell a rfl) hone h63 hbytes (Nat.zero_le _)
  exact ⟨v',w',news,hr',h2,h3,h5,hone,hrn,hpr⟩
theorem z0O {v:Value} {b:Nat} (h:v.ownBlock=some b):zP v=some b:=by
 cases v <;> simp [Value.ownBlock] at h
 rename_i ad _ _
 cases ad <;> simp at h
 simp [zP,h]
theorem z6t {w:World} {B:Nat} {e:TypeId} {n m:Nat} {v:Value} {xs:List Value} (h:w.ownsRow B e n v m xs) {b:Nat} (hb:zP v=some b):v.ownBlock=some b:=by
 rcases h.2 with ⟨rfl,_⟩|⟨g,c,cur,rfl,_⟩
 ·cases hb
 ·exact hb
section
variable {P:Program} {ops:Array Oper} {o:Oper} {s:ASt}
theorem z3y (tag:Nat) (e n:Nat) (rows ys:List (List PV)) (hlk:s.hp.lookup tag=some (.row e n rows)) (hd : ∀ t,o.dst=some t→t<s.n)
  (H : ∀ (L:Lim) loc a w u flat,Rel All L s loc a w→loc tag=some u→w.ownsRow 0 e n u rows.length flat → ∃ (v' : Value) (w' : World) (news:List Value),(execOp a.eval o).run P w = .ok (.value v') w' ∧ w'.ownsRow 0 e n v' (rows.length+ys.length) (flat++news)∧w.grownBy w' u.ownBlock∧(∀ b,zP v' = some b→zP u=some b∨w.heap.size≤b) ∧
   (∀ u ∈ news,u.oneCell' = true)∧(∀ r ∈ ys,r.length=n) ∧ ∀ (k:Nat) r (j:Nat) x,ys[k]? = some r→r[j]? = some x → ∃ v,news[k*n+j]? = some v∧PR (Dm L loc) w x v) :
  z1t P o s (ASt.put { s.subst tag .zA with hp:=zF (s.subst tag .zA).hp tag (.row e n (rows++ys)) } o.dst (.own tag)):=fun L loc a w hr=>by
 obtain ⟨htN,u,hu,hor⟩:=hr.hp.at' tag _ hlk
 obtain ⟨flat,hown,hrn,hfl,hone⟩:=hor
 obtain ⟨v',w',news,hrun',hown',hg,hblk,hone2,hyn,hpr⟩:=H L loc a w u flat hr hu hown
 have hDu : ∀ b,u.ownBlock=some b→Dm L loc b:=fun b hb => .inr ⟨tag,u,hu,z0O hb⟩
 have hk:Kp (Dm L loc) w w':=⟨hg.os,hg.tape,hg.output,hg.size,fun k hk hn=>hg.block k hk (fun e=>hn (hDu k e.symm))⟩
 have hD : ∀ k,k<w.heap.size→Dm L (zO loc tag v') k→Dm L loc k:=fun k hk hd=>(z1S hd).elim (fun e=>(hblk k e).elim (fun e' => .inr ⟨tag,u,hu,e'⟩) (fun e'=>by omega)) id
 have hlc : ∀ k z,k<s.N→k ≠ tag→zO loc tag v' k=some z→loc k=some z:=fun k z _ hne hz=>by rwa [zC _ _ hne] at hz
 have hv1:v'.oneCell' = true:=by rcases hown'.2 with ⟨rfl,_⟩|⟨g,c,cur,rfl,_⟩ <;> rfl
 unfold Oper.wp
 rw [hrun']
 refine ⟨zO loc tag v',?_,⟨⟨hg.os,hg.tape,hg.output,hg.size,fun k hk hn=>hg.block k hk (fun e=>hn (.inr ⟨tag,u,hu,z0O e.symm⟩))⟩,fun b hb=>?_⟩⟩
 ·refine Rel.put' (s := { s.subst tag .zA with hp:=zF (s.subst tag .zA).hp tag (.row e n (rows++ys)) }) ⟨hr.defers,hr.size,fun t _=>?_,⟨fun t ob ht=>?_,fun t ht=>?_,fun t t' z z' b e1 e2 e3 e4=>?_,fun b hL=>Nat.lt_of_lt_of_le (hr.hp.inL b hL) hg.size,fun t z b e1 e2 hL=>?_⟩⟩ hd (.own tag v' htN hv1 fun z hz=>?_)
  ·show AR s.N _ _ _ ((s.subst tag .zA).get t) _
   rw [ASt.z5f]
   exact (hr.fr t trivial).sub (Nat.le_refl _) hk hD hlc (fun v _ _ => .zA v)
  ·change (zF _ _ _).lookup t=some ob at ht
   rw [zB] at ht
   have hm:(s.subst tag .zA).hp.lookup tag=some ((AO.row e n rows).sub tag .zA):=by simp only [ASt.subst,zI,hlk];rfl
   by_cases e:t=tag
   ·subst e
    rw [if_pos rfl,hm] at ht
    cases ht
    refine ⟨htN,v',zG _ _ _,flat++news,by rw [List.length_append];exact hown',fun r hr'=>(List.mem_append.1 hr').elim (hrn r) (hyn r),?_,fun v hv=>(List.mem_append.1 hv).elim (hone v) (hone2 v)⟩
    have:=z2n hown.1 hfl hpr
    exact fun k r j x h1 h2=>let ⟨v,h3,h4⟩:=this k r j x h1 h2;⟨v,h3,h4.mono hk hD⟩
   ·rw [if_neg e] at ht
    simp only [ASt.subst,zI,Option.map_eq_some_iff] at ht
    obtain ⟨ob',hob,rfl⟩:=ht
    obtain ⟨h5,z,h6,h7⟩:=hr.hp.at' t ob' hob
    refine ⟨h5,z,by rw [zC _ _ e];exact h6,h7.sub (Nat.le_refl _) hk hD hlc (fun v _ _ => .zA v) (fun b hb=>hg.block b (h7.z0G hb) (fun e'=>?_))⟩
    exact e (hr.hp.apart t tag z u b h6 hu hb (z0O e'.symm))
  ·change (zF _ _ _).lookup t=none at ht
   rw [zB] at ht
   by_cases e:t=tag
   ·subst e;rw [if_pos rfl] at ht;simp [ASt.subst,zI,hlk] at ht
   ·rw [if_neg e] at ht
    simp only [ASt.subst,zI,Option.map_eq_none_iff] at ht
    rw [zC _ _ e];exact hr.hp.dead t ht
  ·by_cases h5:t=tag
   ·by_cases h6:t' = tag
    ·rw [h5,h6]
    ·subst h5
     rw [zG] at e1;cases e1
     rw [zC _ _ h6] at e2
     rcases hblk b e3 with e5|e5
     ·exact absurd (hr.hp.apart t t' u z' b hu e2 e5 e4).symm h6
     ·obtain ⟨o',_,ho'⟩:=hr.hp.z1G e2
      have:=ho'.z0G e4
      omega
   ·by_cases h6:t' = tag
    ·subst h6
     rw [zG] at e2;cases e2
     rw [zC _ _ h5] at e1
     rcases hblk b e4 with e5|e5
     ·exact absurd (hr.hp.apart t t' z u b e1 hu e3 e5) h5
     ·obtain ⟨o',_,ho'⟩:=hr.hp.z1G e1
      have:=ho'.z0G e3
      omega
    ·rw [zC _ _ h5] at e1
     rw [zC _ _ h6] at e2
     exact hr.hp.apart t t' z z' b e1 e2 e3 e4
  ·by_cases h5:t=tag
   ·subst h5
    rw [zG] at e1;cases e1
    rcases hblk b e2 with e5|e5
    ·exact hr.hp.notL t u b hu e5 hL
    ·have:=hr.hp.inL b hL;omega
   ·rw [zC _ _ h5] at e1
    exact hr.hp.notL t z b e1 e2 hL
  ·rw [zG] at hz;cases hz;rfl
 ·rcases z1S hb with e'|e'
  ·rcases hblk b e' with e5|e5
   ·exact .inl (.inr ⟨tag,u,hu,e5⟩)
   ·exact .inr (by omega)
  ·exact .inl e'
theorem op_append (x y:Operand) (ty tag:Nat) (e n bytes:Nat) (rows ys:List (List PV)) (h:o.op = .call { callee := .builtin .append,args := #[x,y],argTypes := #[ty,ty] }) (hx:s.ev x = .own tag) (hlk:s.hp.lookup tag=some (.row e n rows))
  (ht:zW P ty=some (e,n,bytes)) (hy:s.ev y = .p (.seq n ys)) (h63:rows.length+ys.length≤maxLen) (hbytes:(rows.length+ys.length)*bytes≤140737488355328) (hd : ∀ t,o.dst=some t→t<s.n) :
  z1t P o s (ASt.put { s.subst tag .zA with hp:=zF (s.subst tag .zA).hp tag (.row e n (rows++ys)) } o.dst (.own tag)) :=
 z3y tag e n rows ys hlk hd fun L loc a w u flat hr hu hown=>by
 have h1:=hr.ev x (fun _ _=>trivial)
 have h2:=hr.ev y (fun _ _=>trivial)
 rw [hx] at h1
 rw [hy] at h2
 generalize hax:a.eval x=ax at h1
 cases h1 with
 | own _ _ _ _ hv =>
 obtain rfl:u=ax:=(hv u hu).symm
 generalize hay:a.eval y=ay at h2
 cases h2 with
 | p _ _ hp =>
 obtain ⟨v',w',news,hrun,hown',hg,hat,hone2,hyn,hpr⟩:=z0Y (P:=P) (ty:=o.type) (z0A ht) hown hp h63 hbytes
 refine ⟨v',w',news,?_,hown',hg,fun b hb=>?_,hone2,hyn,hpr⟩
 ·simp only [execOp,h,resolve,invoke,builtin,Sem.run_bind,Sem.run_pure,Result.andThen_ok,List.map_toArray,List.map_cons,List.map_nil,hax,hay,hrun]
 ·have hb':=z6t hown' hb
  rcases hat with e'|e'
  ·rw [e'] at hb';exact .inl (z0O hb')
  ·rw [e'] at hb';cases hb';exact .inr (Nat.le_refl _)
def z0h (l:List UInt8):List (List PV):=l.map fun b => [.val (.int .u8 b.toNat)]
def appS (P:Program) (ty ty' : TypeId):Option Nat:=match P.underlying ty,P.underlying ty' with
 | some (.slice e),some .string=>match P.info? e with
  | some i=>match i.zero with
   | some (.int .u8 0)=>if i.size=1∧i.bytes=1 then some e else none
   | _=>none
  | none=>none
 | _,_=>none
theorem z7M (x y:Operand) (ty ty' tag:Nat) (e:Nat) (rows:List (List PV)) (b:ByteArray) (h:o.op = .call { callee := .builtin .append,args := #[x,y],argTypes := #[ty,ty'] }) (hx:s.ev x = .own tag) (hlk:s.hp.lookup tag=some (.row e 1 rows))
  (ht:appS P ty ty' = some e) (hy:s.ev y = .p (.val (.string b))) (hl:rows.length+b.size≤140737488355328) (hd : ∀ t,o.dst=some t→t<s.n) :
  z1t P o s (ASt.put { s.subst tag .zA with hp:=zF (s.subst tag .zA).hp tag (.row e 1 (rows++z0h b.data.toList)) } o.dst (.own tag)) :=
 z3y tag e 1 rows (z0h b.data.toList) hlk hd fun L loc a w u flat hr hu hown=>by
 have h1:=hr.ev x (fun _ _=>trivial)
 have h2:=hr.ev y (fun _ _=>trivial)
 rw [hx] at h1
 rw [hy] at h2
 generalize hax:a.eval x=ax at h1
 cases h1 with
 | own _ _ _ _ hv =>
 obtain rfl:u=ax:=(hv u hu).symm
 have hay:=h2.val
 obtain ⟨i,e1,e2,e3,e4,e5,e6⟩ : ∃ i,P.underlying ty=some (.slice e)∧P.underlying ty' = some .string∧P.info? e=some i∧i.zero=some (.int .u8 0)∧i.size=1∧i.bytes=1:=by
  unfold appS at ht
  split at ht
  ·rename_i e' k1 k2
   split at ht
   ·rename_i i k3
    split at ht
    ·rename_i k4
     split at ht
     ·rename_i k5;cases ht;exact ⟨i,k1,k2,k3,k4,k5.1,k5.2⟩
     ·cases ht
    ·cases ht
   ·cases ht
  ·cases ht
 have hml:rows.length+b.size≤maxLen:=by unfold maxLen;omega
 have hbl:(z0h b.data.toList).length=b.size:=by rw [z0h,List.length_map,Array.length_toList];rfl
 obtain ⟨v',w',hrun,hown',hg,_⟩:=Go.Lib.run_append_own_string (P:=P) w 0 ty ty' o.type e i e1 e2 e3 e4 e5 e6 u rows.length flat hown b hml hl (Nat.zero_le _)
 refine ⟨v',w',Go.Lib.strCells b,?_,by rw [hbl];exact hown',hg,fun g hgb=>?_,Go.Lib.strCells_oneCell b,fun r hr=>?_,fun k r j x hk hx=>?_⟩
 ·simp only [execOp,h,resolve,invoke,builtin,Sem.run_bind,Sem.run_pure,Result.andThen_ok,List.map_toArray,List.map_cons,List.map_nil,hax,hay,hrun]
 ·have hown2:=hown
  rcases hown.2 with ⟨rfl,h0⟩|⟨g1,cap,cur,rfl,_,hg1,hle,hmx,hcs,htk⟩
  ·have hnl:flat = []:=List.eq_nil_of_length_eq_zero (by rw [hown.1,h0])
   rw [h0,hnl] at hown2
   obtain ⟨v2,w2,hrun2,hown3,_⟩:=Go.Lib.run_append_own_string (P:=P) w w.heap.size ty ty' o.type e i e1 e2 e3 e4 e5 e6 (.slice none 0 0) 0 [] (World.ownsRow_nil _ _ _ _) b (by omega) (by omega) (Nat.le_refl _)
   rw [hrun] at hrun2
   cases hrun2
   rcases hown3.2 with ⟨rfl,_⟩|⟨g2,_,_,rfl,hge,_⟩
   ·cases hgb
   ·simp only [zP,Option.some.injEq] at hgb
    exact .inr (hgb ▸ hge)
  ·by_cases hroom:rows.length+b.size≤cap
   ·have hr2:=Go.Lib.run_append_room_string (P:=P) w ty ty' o.type e i e1 e2 e3 e5 g1 rows.length cap cur hg1 b hroom (by rw [hcs];omega)
    rw [hrun] at hr2
    cases hr2
    exact .inl hgb
   ·have hr2:=Go.Lib.run_append_grow_string (P:=P) w ty ty' o.type e i (.int .u8 0) e1 e2 e3 e4 ⟨g1,0,none⟩ rows.length cap flat (by rw [hown.1,e5]) (hown.cells (g:=g1) rfl) b (by omega) (by omega) (by rw [e6];exact growslice_fits (by omega) (by omega))
    rw [hrun] at hr2
    cases hr2
    simp only [zP,Option.some.injEq] at hgb
    exact .inr (Nat.le_of_eq hgb)
 ·simp only [z0h,List.mem_map] at hr
  obtain ⟨_,_,rfl⟩:=hr
  rfl
 ·simp only [z0h,List.getElem?_map,Option.map_eq_some_iff] at hk
  obtain ⟨c,hc,rfl⟩:=hk
  match j,hx with
  | 0,hx =>
   cases hx
   exact ⟨_,by simp [Go.Lib.strCells,hc],.val _ rfl⟩
end
def AVle (x y:AV):Prop := ∀ N D loc w v,AR N D loc w x v→AR N D loc w y v
theorem AVle.refl (x:AV):AVle x x:=fun _ _ _ _ _ h=>h
theorem AVle.zA (x:AV):AVle x .zA:=fun _ _ _ _ v _ => .zA v
theorem AVle.nil (n:Nat):AVle (.p (.val (.slice none 0 0))) (.p (.seq n [])):=fun _ _ _ _ _ h=>by
 rw [h.val];exact .p _ _ (.nil n none 0 fun _=>rfl)
noncomputable def AO.okB (n:Nat):AO→Bool
 | .boxP _ _ cs=>cs.all (·.okB n)
 | .arow _ cs=>cs.all (·.okB n)
 | .lrec _ _ fr=>fr.all fun p=>p.2.okB n
 | .row _ _ _=>true
 | .map _ _ _ _ _=>true
 | .raw _ _=>true
 | .amap _ _ _ f _=>open Classical in decide (∀ l x,f l=some x→x.okB n=true)
noncomputable def ASt.okB (s:ASt):Bool:=s.fr.all (fun p=>p.2.okB s.N)&&s.hp.all (fun p=>decide (p.1<s.N)&&p.2.okB s.N)
theorem qc {α:Type} {l:List (Nat × α)} {t:Nat} {x : α} (h:l.lookup t=some x):(t,x) ∈ l:=by
 induction l with
 | nil=>cases h
 | cons p r ih =>
  obtain ⟨j,y⟩:=p
  by_cases e:t=j
  ·subst e;rw [zi] at h;cases h;exact List.mem_cons.2 (.inl rfl)
  ·rw [ze e] at h;exact List.mem_cons.2 (.inr (ih h))
theorem OR.low {N n:Nat} {D:Nat→Prop} {loc:Nat→Option Value} {w:World} {u:Value} {o:AO} (h:OR N D loc w u o) (hx:o.okB n=true):OR n D loc w u o:=by
 cases o with
 | map b P k n f=>exact h
 | amap P k m f q =>
  obtain ⟨b,DD,g,rfl,h1,h3,h4,h5⟩:=h
  simp only [AO.okB,decide_eq_true_eq] at hx
  exact ⟨b,DD,g,rfl,h1,h3,fun kl=>⟨fun x hf=>let ⟨v,k1,k2⟩:=(h4 kl).1 x hf;⟨v,k1,k2.low (hx kl x hf)⟩,(h4 kl).2⟩,h5⟩
 | arow e cs =>
  obtain ⟨flat,h1,h3,h4⟩:=h
  exact ⟨flat,h1,fun j x hj=>let ⟨v,k1,k2⟩:=h3 j x hj;⟨v,k1,k2.low (List.all_eq_true.1 hx x (List.mem_of_getElem? hj))⟩,h4⟩
 | raw v ob=>exact h
 | lrec l sp fr =>
  obtain ⟨rfl,tmps,h1,h2,h3⟩:=h
  refine ⟨rfl,tmps,h1,h2,fun t=>?_⟩
  have h4:=h3 t
  cases hf:fr.lookup t with
  | none=>exact .zA _
  | some x=>rw [hf] at h4;exact h4.low (List.all_eq_true.1 hx _ (qc hf))
 | boxP pin ty cs =>
  obtain ⟨b,arr,rfl,h1,h2,h3,h4⟩:=h
  exact ⟨b,arr,rfl,h1,h2,fun j x hj=>(h3 j x hj).low (List.all_eq_true.1 hx x (List.mem_of_getElem? hj)),h4⟩
 | row e n rows=>exact h
theorem zk.of {s s' : ASt} (hn:s'.n=s.n) (hfr : ∀ p ∈ s'.fr,AVle (s.get p.1) p.2) (hhp : ∀ p ∈ s'.hp,s.hp.lookup p.1=some p.2) (hok:s'.okB=true):zk s s':=fun L loc a w hr=>by
 simp only [ASt.okB,Bool.and_eq_true,List.all_eq_true,decide_eq_true_eq] at hok
 obtain ⟨ok1,ok2⟩:=hok
 let loc' : Nat→Option Value:=fun t=>if (s'.hp.lookup t).isSome then loc t else none
 have hl : ∀ t u,loc' t=some u→loc t=some u:=fun t u h=>by
  simp only [loc'] at h
  split at h
  ·exact h
  ·cases h
 have hD : ∀ k,Dm L loc' k→Dm L loc k:=fun k hk=>hk.imp id fun ⟨t,u,h1,h2⟩=>⟨t,u,hl t u h1,h2⟩
 refine ⟨loc',⟨hr.defers,hr.size.trans hn.symm,fun t _=>?_,⟨fun t o ht=>?_,fun t ht=>?_,fun t t' u u' b h1 h2=>hr.hp.apart t t' u u' b (hl _ _ h1) (hl _ _ h2),hr.hp.inL,fun t u b h1=>hr.hp.notL t u b (hl _ _ h1)⟩⟩,⟨Kp.refl _ _,fun b hb => .inl (hb.imp id fun ⟨t,u,h1,h2⟩=>⟨t,u,hl t u h1,h2⟩)⟩⟩
 ·unfold ASt.get
  cases ht:s'.fr.lookup t with
  | none=>exact .zA _
  | some x =>
   have hm:=qc ht
   have h1:=hfr _ hm _ _ _ _ _ (hr.fr t trivial)
   exact (h1.low (ok1 _ hm)).mono (Nat.le_refl _) (Kp.refl _ _) (fun k _ h=>hD k h) (fun t u _ h=>hl t u h)
 ·have hm:=qc ht
  have h1:=hhp _ hm
  obtain ⟨_,u,h3,h4⟩:=hr.hp.at' t o h1
  have h5:=ok2 _ hm
  refine ⟨h5.1,u,by simp [loc',ht,h3],(h4.low h5.2).mono (Nat.le_refl _) (Kp.refl _ _) (fun k _ h=>hD k h) (fun t u _ h=>hl t u h) (fun _ _=>rfl)⟩
 ·simp [loc',ht]
def ASt.frz (s:ASt) (t:Nat):ASt:=match s.hp.lookup t with
 | some (.row _ n rows) => { s.subst t (.p (.seq n rows)) with hp:=(s.subst t (.p (.seq n rows))).hp.filter fun p=>p.1 != t }
 | _=>s
theorem qz {α:Type} (l:List (Nat × α)) (t k:Nat):(l.filter fun p=>p.1 != t).lookup k=if k=t then none else l.lookup k:=by
 induction l with
 | nil=>simp
 | cons p r ih =>
  obtain ⟨j,x⟩:=p
  by_cases e:j=t
  ·subst e
   rw [List.filter_cons,if_neg (by simp),ih]
   by_cases ek:k=j
   ·rw [if_pos ek,if_pos ek]
   ·rw [if_neg ek,if_neg ek,ze ek]
  ·rw [List.filter_cons,if_pos (by simpa using e)]
   by_cases ek:k=j
   ·subst ek;rw [zi,zi,if_neg e]
   ·rw [ze ek,ze ek,ih]
theorem zk.frz (s:ASt) (t:Nat):zk s (s.frz t):=by
 unfold ASt.frz
 split
 ·rename_i e n rows hlk
  intro L loc a w hr
  obtain ⟨htN,u,hu,hor⟩:=hr.hp.at' t _ hlk
  let loc' : Nat→Option Value:=fun k=>if k=t then none else loc k
  have hl : ∀ k u,loc' k=some u→k ≠ t∧loc k=some u:=fun k u h=>by
   simp only [loc'] at h
   split at h
   ·cases h
   ·rename_i e;exact ⟨e,h⟩
  have hD : ∀ k,Dm L loc' k→Dm L loc k:=fun k hk=>hk.imp id fun ⟨t,u,h1,h2⟩=>⟨t,u,(hl t u h1).2,h2⟩
  have hnb : ∀ b,zP u=some b → ¬ Dm L loc' b:=fun b hb hd=>hd.elim (fun h=>hr.hp.notL t u b hu hb h) (fun ⟨t',u',h1,h2⟩=>(hl t' u' h1).1 (hr.hp.apart t' t u' u b (hl t' u' h1).2 hu h2 hb))
  have hpr:PR (Dm L loc') w (.seq n rows) u:=hor.seq hD hnb
  have hy : ∀ v,v.oneCell' = true→(∀ z,loc t=some z→v=z)→AR s.N (Dm L loc') loc' w (.p (.seq n rows)) v:=fun v _ hv=>by rw [hv u hu];exact .p _ _ hpr
  refine ⟨loc',⟨hr.defers,hr.size,fun k _=>?_,⟨fun k o ht=>?_,fun k ht=>?_,fun k k' z z' b h1 h2=>hr.hp.apart k k' z z' b (hl _ _ h1).2 (hl _ _ h2).2,hr.hp.inL,fun k z b h1=>hr.hp.notL k z b (hl _ _ h1).2⟩⟩,⟨Kp.refl _ _,fun b hb => .inl (hb.imp id fun ⟨t,u,h1,h2⟩=>⟨t,u,(hl t u h1).2,h2⟩)⟩⟩
  ·show AR _ _ _ _ ((s.subst t _).get k) _
   rw [ASt.z5f]
   exact (hr.fr k trivial).sub (Nat.le_refl _) (Kp.refl _ _) (fun k _ h=>hD k h) (fun k z _ hne h=>(hl k z h).2) hy
  ·change List.lookup k (List.filter _ _)=some o at ht
   rw [qz] at ht
   split at ht
   ·cases ht
   ·rename_i hne
    simp only [ASt.subst,zI,Option.map_eq_some_iff] at ht
    obtain ⟨ob,h1,rfl⟩:=ht
    obtain ⟨h2,z,h3,h4⟩:=hr.hp.at' k ob h1
    exact ⟨h2,z,by simp [loc',hne,h3],h4.sub (Nat.le_refl _) (Kp.refl _ _) (fun k _ h=>hD k h) (fun k z _ hne h=>(hl k z h).2) hy (fun _ _=>rfl)⟩
  ·change List.lookup k (List.filter _ _)=none at ht
   rw [qz] at ht
   split at ht
   ·rename_i e;simp [loc',e]
   ·rename_i hne
    simp only [ASt.subst,zI,Option.map_eq_none_iff] at ht
    simp [loc',hne,hr.hp.dead k ht]
 ·exact zk.refl s
theorem zk.z7c (s:ASt) (t e n:Nat) (ht:t<s.n) (h:s.get t = .p (.val (.slice none 0 0))):zk s ((s.add (.row e n [])).put (some t) (.own s.N)):=fun L loc a w hr=>by
 have hs:slot a t = .slice none 0 0:=by have:=hr.fr t trivial;rw [h] at this;exact this.val
 have hb:=Blw.refl w.heap.size w
 have h1:=hr.add hb (.slice none 0 0) (.row e n []) (fun b e=>by cases e) ⟨[],World.ownsRow_nil _ _ _ _,fun r hr=>(by cases hr),fun k r j x h=>(by simp at h),fun v hv=>(by cases hv)⟩
 refine ⟨zO loc s.N (.slice none 0 0),?_,.add hb _ _ (fun b e=>by cases e)⟩
 have h2:=h1.put (d:=t) ht (x := .own s.N) (v := .slice none 0 0) (.own s.N _ (Nat.lt_succ_self _) rfl fun u hu=>by rw [zG] at hu;cases hu;rfl)
 have e:a.put (some t) (.slice none 0 0)=a:=by
  refine act_ext (by rw [size_put]) rfl fun k=>?_
  rw [z1B a t k _ (by rw [hr.size];exact ht)]
  split
  ·rename_i hk;rw [hk,hs]
  ·rfl
 rw [e] at h2
 exact ⟨h2.defers,h2.size,fun k _=>h2.fr k (.inr trivial),h2.hp⟩
def frOf:Nat→List AV→List (Nat × AV)
 | _,[] => []
 | k,x :: r=>(k,x) :: frOf (k+1) r
def z0R (xs:List AV) (n:Nat):ASt:=⟨frOf 0 xs,[],n,0⟩
theorem z2k : ∀ (xs:List AV) (k t:Nat),(frOf k xs).lookup t=if k≤t then xs[t-k]? else none
 | [],k,t=>by simp [frOf]
 | x :: r,k,t=>by
  rw [frOf]
  by_cases e:t=k
  ·subst e;rw [zi,if_pos (Nat.le_refl _)];simp
  ·rw [ze e,z2k r (k+1) t]
   by_cases h:k+1≤t
   ·rw [if_pos h,if_pos (by omega),show t-k=(t-(k+1))+1 by omega];rfl
   ·rw [if_neg h,if_neg (by omega)]
def zq (P:Program) (s:ASt):ResultVar→Option AV
 | .tmp t=>some (s.get t)
 | .cell t ty=>match s.get t with
  | .ptr tag off=>z4U P s ty (.ptr tag off)
  | _=>none
def zt (P:Program) (s:ASt):List ResultVar→Option (List AV)
 | []=>some []
 | r :: rs=>match zq P s r,zt P s rs with
  | some x,some xs=>some (x :: xs)
  | _,_=>none
def zw (P:Program) (s:ASt) (rs:List ResultVar):Option AV:=match zt P s rs with
 | some [x]=>some x
 | some xs=>some (.tup xs)
 | none=>none
theorem load_ptr {P:Program} {X:Nat→Prop} {L:Lim} {s:ASt} {loc:Nat→Option Value} {a:Act} {w:World} (hr:Rel X L s loc a w) {tag off ty:Nat} {av:AV} {v:Value} (hv:AR s.N (Dm L loc) loc w (.ptr tag off) v) (h:z4U P s ty (.ptr tag off)=some av) :
  ∃ b u,v = .pointer (some ⟨b,off,none⟩)∧(loadVar ty ⟨b,off,none⟩).run P w = .ok u w∧AR s.N (Dm L loc) loc w av u:=by
 simp only [z4U] at h
 cases hlk:s.hp.lookup tag with
 | none=>rw [hlk] at h;cases h
 | some ob =>
  rw [hlk] at h
  obtain ⟨_,u',hu',hor⟩:=hr.hp.at' tag ob hlk
  cases ob with
  | map _ _ _ _ _=>cases h
  | raw _ _=>cases h
  | lrec _ _ _=>cases h
  | amap _ _ _ _ _=>cases h
  | arow _ _=>cases h
  | row e n rows=>cases h
  | boxP pin ty' cs =>
   obtain ⟨b,arr,rfl,hh,hsz,hcs,h1c,_⟩:=hor
   cases hv with
   | ptr _ _ _ _ _ hv =>
   obtain rfl:=hv b hu'
   obtain ⟨u,h2,h3⟩:=z1O (P:=P) (N:=s.N) (D:=Dm L loc) (loc:=loc) (b:=b) (o := 0) (cs:=cs) (fun j=>arr.getD j undef) (fun j y hy=>by
    obtain ⟨hlt,_⟩:=List.getElem?_eq_some_iff.1 hy
    refine ⟨?_,hcs j y hy,h1c j (by omega)⟩
    rw [z15 hh,Array.getD_eq_getD_getElem?,Nat.zero_add,Array.getElem?_eq_getElem (by omega)];rfl) h
   rw [Nat.zero_add] at h2
   exact ⟨b,u,rfl,by simpa [Instr.loadAt,Instr.sureAddr] using h2,h3⟩
def res1 (tmps:Array Value):ResultVar→Sem Value
 | .tmp t=>pure (tmps.getD t undef)
 | .cell t ty=>do loadVar ty (← asAddr (tmps.getD t undef))
theorem z8r {fn:Func} {rs:List ResultVar} (h:fn.results=rs.toArray) (tmps:Array Value) (P:Program) (w:World):(results fn tmps).run P w=((rs.mapM (res1 tmps)).run P w).andThen fun vs w' => .ok (match vs with | [v]=>v|vs => .tuple vs.toArray) w':=by
 have e:results fn tmps=(do let vs ← fn.results.mapM (res1 tmps);pure (if h:vs.size=1 then vs[0] else .tuple vs)):=by
  unfold results
  congr 1
 rw [e,h,List.mapM_toArray]
 simp only [bind_map_left,Sem.run_bind]
 congr 1
 funext vs w'
 match vs with
 | []=>simp
 | [v]=>simp
 | a :: b :: r=>simp
theorem z2N {P:Program} {L:Lim} {s:ASt} {loc:Nat→Option Value} {a:Act} {w:World} (hr:Rel All L s loc a w) {r:ResultVar} {x:AV} (h:zq P s r=some x) :
  ∃ v,(res1 a.tmps r).run P w = .ok v w∧AR s.N (Dm L loc) loc w x v:=by
 cases r with
 | tmp t=>cases h;exact ⟨slot a t,by simp [slot,res1],hr.fr t trivial⟩
 | cell t ty =>
  simp only [zq] at h
  split at h
  ·rename_i tag off he
   have h1:=hr.fr t trivial
   rw [he] at h1
   obtain ⟨b,u,h2,h3,h4⟩:=load_ptr hr h1 h
   refine ⟨u,?_,h4⟩
   unfold slot at h2
   simp only [res1,h2,asAddr,Sem.run_bind,Sem.run_pure,Result.andThen_ok,h3]
  ·cases h
theorem z6d {P:Program} {L:Lim} {s:ASt} {loc:Nat→Option Value} {a:Act} {w:World} (hr:Rel All L s loc a w) (fn:Func) {x:AV} (h:zw P s fn.results.toList=some x) (h3:fn.results.size≤3) : ∃ v,(results fn a.tmps).run P w = .ok v w∧AR s.N (Dm L loc) loc w x v:=by
 obtain ⟨rs,hrs⟩ : ∃ rs,fn.results=List.toArray rs:=⟨fn.results.toList,by simp⟩
 rw [hrs] at h h3
 simp only [List.size_toArray] at h3
 unfold zw at h
 rw [z8r hrs]
 rcases rs with _|⟨r1,_|⟨r2,_|⟨r3,_|⟨r4,rs⟩⟩⟩⟩
 ·simp only [zt,Option.some.injEq] at h
  subst h
  exact ⟨.tuple #[],by simp,.tup [] #[] rfl (fun j x hx=>by simp at hx)⟩
 ·simp only [zt] at h
  cases h1:zq P s r1 with
  | none=>simp [h1] at h
  | some y =>
   simp only [h1,Option.some.injEq] at h
   subst h
   obtain ⟨v,h2,h4⟩:=z2N hr h1
   exact ⟨v,by simp [h2],h4⟩
 ·simp only [zt] at h
  cases h1:zq P s r1 with
  | none=>simp [h1] at h
  | some y1 =>
   cases h2:zq P s r2 with
   | none=>simp [h1,h2] at h
   | some y2 =>
    simp only [h1,h2,Option.some.injEq] at h
    subst h
    obtain ⟨v1,h4,h5⟩:=z2N hr h1
    obtain ⟨v2,h6,h7⟩:=z2N hr h2
    refine ⟨.tuple #[v1,v2],by simp [h4,h6],.tup _ _ rfl fun j x hx=>?_⟩
    match j,hx with
    | 0,hx=>cases hx;exact h5
    | 1,hx=>cases hx;exact h7
 ·simp only [zt] at h
  cases h1:zq P s r1 with
  | none=>simp [h1] at h
  | some y1 =>
   cases h2:zq P s r2 with
   | none=>simp [h1,h2] at h
   | some y2 =>
    cases h3:zq P s r3 with
    | none=>simp [h1,h2,h3] at h
    | some y3 =>
     simp only [h1,h2,h3,Option.some.injEq] at h
     subst h
     obtain ⟨v1,h4,h5⟩:=z2N hr h1
     obtain ⟨v2,h6,h7⟩:=z2N hr h2
     obtain ⟨v3,h8,h9⟩:=z2N hr h3
     refine ⟨.tuple #[v1,v2,v3],by simp [h4,h6,h8],.tup _ _ rfl fun j x hx=>?_⟩
     match j,hx with
     | 0,hx=>cases hx;exact h5
     | 1,hx=>cases hx;exact h7
     | 2,hx=>cases hx;exact h9
 ·simp at h3
def z3h:List Nat→World→World
 | [],w=>w
 | D :: r,w=>z3h r (w.putObj D (.deferred none))
theorem z16 {D:Nat} (w:World) (ob:Obj):Kp (fun k=>k=D) w (w.putObj D ob):=⟨rfl,rfl,rfl,by simp,fun k _ hk=>World.putObj_heap_other hk⟩
theorem Kp.wide {D D' : Nat→Prop} {w w' : World} (h:Kp D w w') (hD : ∀ k,D k→D' k):Kp D' w w':=⟨h.os,h.tape,h.output,h.size,fun k hk hn=>h.block k hk fun e=>hn (hD k e)⟩
theorem HRel.shut1 {L:Nat→Prop} {N:Nat} {hp:Hp} {loc:Nat→Option Value} {w w' : World} {D:Nat} (h:HRel L N hp loc w) (hD:L D) (hk:Kp (fun k=>k=D) w w'):HRel L N hp loc w' :=
 ⟨fun t o ho=>by
  obtain ⟨h1,u,h2,h3⟩:=h.at' t o ho
  exact ⟨h1,u,h2,h3.mono (Nat.le_refl _) (hk.wide (D':=Dm L loc) fun k e => .inl (e ▸ hD)) (fun _ _ h=>h) (fun _ _ _ h=>h) (fun b hb=>hk.block b (h3.z0G hb) fun e=>h.notL t u b h2 hb (e ▸ hD))⟩,
 h.dead,h.apart,fun b hL=>Nat.lt_of_lt_of_le (h.inL b hL) hk.size,h.notL⟩
theorem Rel.shut1 {X:Nat→Prop} {L:Lim} {s:ASt} {loc:Nat→Option Value} {a:Act} {w w' : World} {D:Nat} (h:Rel X L s loc a w) (hD:L D) (hk:Kp (fun k=>k=D) w w'):Rel X L s loc a w' :=
 ⟨h.defers,h.size,fun t ht=>(h.fr t ht).mono (Nat.le_refl _) (hk.wide fun k e => .inl (e ▸ hD)) (fun _ _ h=>h) (fun _ _ _ h=>h),h.hp.shut1 hD hk⟩
theorem Rel.shut {X:Nat→Prop} {L:Lim} {s:ASt} {loc:Nat→Option Value} {a:Act} : ∀ (new:List Nat) {w:World},Rel X L s loc a w→(∀ D ∈ new,L D)→Rel X L s loc a (z3h new w)
 | [],_,h,_=>h
 | D :: r,_,h,hD=>Rel.shut r (h.shut1 (hD D (List.mem_cons.2 (.inl rfl))) (z16 _ _)) fun x hx=>hD x (List.mem_cons.2 (.inr hx))
theorem z4E : ∀ (new:List Nat) (w:World),Kp (fun k=>k ∈ new) w (z3h new w)
 | [],w=>Kp.refl _ _
 | D :: r,w=>((z16 (D:=D) w (.deferred none)).wide fun _ e=>by rw [e];exact List.mem_cons.2 (.inl rfl)).trans (z4E r _) fun x hx => .inl (List.mem_cons.2 (.inr hx))
theorem z1w {P:Program} {fn:Func} {tmps:Array Value} {R:Ending→World→Prop} : ∀ (new:List Nat) (w:World),new.Nodup→(∀ D ∈ new,w.heap[D]? = some (.deferred (some []))) →
  (∃ v,(results fn tmps).run P (z3h new w) = .ok v (z3h new w)∧R (.returned v) (z3h new w))→LeavesInM Fence.wide 0 P fn tmps R (new.map mark) .returning w
 | [],w,_,_,h=>h
 | D :: r,w,hn,hD,h=>by
  obtain ⟨h1,h2⟩:=List.nodup_cons.1 hn
  refine ⟨by simp,.inl ⟨D,w.putObj D (.deferred none),rfl,run_takeDeferred (hD D (List.mem_cons.2 (.inl rfl))),z1w r _ h2 (fun x hx=>?_) h⟩⟩
  rw [World.putObj_heap_other (k:=x) (r:=D) (fun e=>h1 (by rw [← e];exact hx))]
  exact hD x (List.mem_cons.2 (.inr hx))
def zH (P:Program) (fn:Func) (r:AV) (e:Exit) (s:ASt):Prop:=(e = .normal∨e = .ret) ∧ ∃ s',zk s s' ∧ zw P s' fn.results.toList=some r
theorem zx.of {P:Program} {f:FuncId} {fn:Func} {c:Code} {xs:List AV} {r:AV} (hf:P.funcs[f]? = some fn) (hb:fn.body=some c) (n:Nat) (hn:xs.length+(fn.ntmps-xs.length)=n) (h3:fn.results.size≤3) (hr:r.okB 0=true) (h:T Fence.wide P c (zH P fn r) (z0R xs n)):zx P f xs r:=fun L w vs hL hvs=>by
 have hst:Rel All ⟨L,[]⟩ (z0R xs n) z1Z { tmps:=vs.toArray++Array.replicate (fn.ntmps-vs.toArray.size) undef,defers := [] } w:=by
  refine ⟨rfl,by simp [z0R,hvs.1];omega,fun t _=>?_,⟨fun t o ht=>(by simp [z0R] at ht),fun _ _=>rfl,fun t t' u u' b h1=>(by cases h1),hL,fun t u b h1=>(by cases h1)⟩⟩
  unfold ASt.get z0R
  rw [z2k,if_pos (Nat.zero_le _),Nat.sub_zero]
  cases hx:xs[t]? with
  | none=>exact .zA _
  | some x =>
   have hlt:=(List.getElem?_eq_some_iff.1 hx).1
   have hv:vs[t]? = some (vs[t]'(by rw [hvs.1];exact hlt)):=List.getElem?_eq_getElem _
   have h1:=hvs.2 t x _ hx hv
   have e:slot { tmps:=vs.toArray++Array.replicate (fn.ntmps-vs.toArray.size) undef,defers := [] } t=vs[t]'(by rw [hvs.1];exact hlt):=by
    unfold slot
    rw [Array.getD_eq_getD_getElem?,Array.getElem?_append,if_pos (by simp [hvs.1,hlt])]
    simp [hv]
   rw [e]
   exact h1.mono (Nat.le_refl _) (Kp.refl _ _) (fun k _ hk=>hk.elim id (fun ⟨_,_,h,_⟩=>by cases h)) (fun _ _ h=>absurd h (Nat.not_lt_zero _))
 refine callsIn_wide.1 (callsIn_of_wp_marks (n := 0) hf hb trivial (wpIn_mono (h ⟨L,[]⟩ z1Z _ w hst) fun e a' w' ⟨s',loc',⟨he,s2,hw,hares⟩,⟨L1,hrel,hlx⟩,hx⟩=>?_))
 obtain ⟨new,e1,hnd,hnew⟩:=hlx.ds
 rw [List.append_nil] at e1
 obtain ⟨l2,hrel2,hx2⟩:=hw L1 loc' a' w' hrel
 obtain ⟨v,hrun,hav⟩:=z6d (hrel2.shut new fun D hD=>(hnew D hD).2.1) fn hares h3
 have hbel:Blw w.heap.size w (z3h new w'):=by
  have k1:Kp (fun k=>Dm (fun _=>False) z1Z k∨k ∈ new) w (z3h new w'):=(hx.kp.wide fun k h => .inl h).trans ((z4E new w').wide fun k h => .inr h) fun x hx' => .inl hx'
  exact ⟨⟨k1.os,k1.tape,k1.output,k1.size,fun k hk=>k1.block k hk fun hd=>hd.elim (fun hd=>hd.elim id fun ⟨_,_,h,_⟩=>by cases h) (fun hd=>by have:=(hnew k hd).1;omega)⟩⟩
 have hleave:LeavesInM Fence.wide 0 P fn a'.tmps (fun e w' => ∃ v',e = .returned v' ∧ Blw w.heap.size w w' ∧ AR 0 L z1Z w' r v') a'.defers .returning w':=by
  rw [hrel.defers,e1]
  exact z1w new w' hnd (fun D hD=>(hnew D hD).2.2) ⟨v,hrun,v,rfl,hbel,hav.bare hr (fun b hb => .inl (hlx.sub b hb))⟩
 rcases he with rfl|rfl
 ·exact hleave
 ·exact hleave
def FinF (P:Program) (fn:Func) (n:Nat) (rows:List (List PV)) (e:Exit) (s:ASt):Prop:=(e = .normal∨e = .ret) ∧ ∃ s',zk s s' ∧ ∃ t e0,zw P s' fn.results.toList=some (.own t)∧s'.hp.lookup t=some (.row e0 n rows) ∧ ∀ r ∈ rows,∀ x ∈ r,∃ v,x = .val v
theorem FinF.ret {P:Program} {fn:Func} {n:Nat} {rows:List (List PV)} {s s' : ASt} {e:Exit} (t e0:Nat) (he:e = .normal∨e = .ret) {rs:Array ResultVar} (hrs:fn.results=rs) (hw:zk s s') (h:zw P s' rs.toList=some (.own t)) (hlk:s'.hp.lookup t=some (.row e0 n rows)) (hsc : ∀ r ∈ rows,∀ x ∈ r,∃ v,x = .val v):FinF P fn n rows e s:=⟨he,s',hw,t,e0,by rw [hrs];exact h,hlk,hsc⟩
theorem z8u.of {P:Program} {f:FuncId} {fn:Func} {c:Code} {xs:List AV} {n0:Nat} {rows:List (List PV)} (hf:P.funcs[f]? = some fn) (hb:fn.body=some c) (n:Nat) (hn:xs.length+(fn.ntmps-xs.length)=n) (h3:fn.results.size≤3) (h:T Fence.wide P c (FinF P fn n0 rows) (z0R xs n)):z8u P f xs (.seq n0 rows):=fun L w vs hL hvs=>by
 have hst:Rel All ⟨L,[]⟩ (z0R xs n) z1Z { tmps:=vs.toArray++Array.replicate (fn.ntmps-vs.toArray.size) undef,defers := [] } w:=by
  refine ⟨rfl,by simp [z0R,hvs.1];omega,fun t _=>?_,⟨fun t o ht=>(by simp [z0R] at ht),fun _ _=>rfl,fun t t' u u' b h1=>(by cases h1),hL,fun t u b h1=>(by cases h1)⟩⟩
  unfold ASt.get z0R
  rw [z2k,if_pos (Nat.zero_le _),Nat.sub_zero]
  cases hx:xs[t]? with
  | none=>exact .zA _
  | some x =>
   have hlt:=(List.getElem?_eq_some_iff.1 hx).1
   have hv:vs[t]? = some (vs[t]'(by rw [hvs.1];exact hlt)):=List.getElem?_eq_getElem _
   have h1:=hvs.2 t x _ hx hv
   have e:slot { tmps:=vs.toArray++Array.replicate (fn.ntmps-vs.toArray.size) undef,defers := [] } t=vs[t]'(by rw [hvs.1];exact hlt):=by
    unfold slot
    rw [Array.getD_eq_getD_getElem?,Array.getElem?_append,if_pos (by simp [hvs.1,hlt])]
    simp [hv]
   rw [e]
   exact h1.mono (Nat.le_refl _) (Kp.refl _ _) (fun k _ hk=>hk.elim id (fun ⟨_,_,h,_⟩=>by cases h)) (fun _ _ h=>absurd h (Nat.not_lt_zero _))
 refine callsIn_wide.1 (callsIn_of_wp_marks (n := 0) hf hb trivial (wpIn_mono (h ⟨L,[]⟩ z1Z _ w hst) fun e a' w' ⟨s',loc',⟨he,s2,hw,t,e0,hares,hlk,hsc⟩,⟨L1,hrel,hlx⟩,hx⟩=>?_))
 obtain ⟨new,e1,hnd,hnew⟩:=hlx.ds
 rw [List.append_nil] at e1
 obtain ⟨l2,hrel2,hx2⟩:=hw L1 loc' a' w' hrel
 obtain ⟨v,hrun,hav⟩:=z6d (hrel2.shut new fun D hD=>(hnew D hD).2.1) fn hares h3
 have hbel:Blw w.heap.size w (z3h new w'):=by
  have k1:Kp (fun k=>Dm (fun _=>False) z1Z k∨k ∈ new) w (z3h new w'):=(hx.kp.wide fun k h => .inl h).trans ((z4E new w').wide fun k h => .inr h) fun x hx' => .inl hx'
  exact ⟨⟨k1.os,k1.tape,k1.output,k1.size,fun k hk=>k1.block k hk fun hd=>hd.elim (fun hd=>hd.elim id fun ⟨_,_,h,_⟩=>by cases h) (fun hd=>by have:=(hnew k hd).1;omega)⟩⟩
 have hrel3:=hrel2.shut new fun D hD=>(hnew D hD).2.1
 obtain ⟨_,u,hu,hor⟩:=hrel3.hp.at' t _ hlk
 obtain rfl:v=u:=by cases hav with|own _ _ _ _ h=>exact h u hu
 have hfr : ∀ b,zP v=some b → ¬ b<w.heap.size:=fun b hb hlt=>by
  rcases hx2.fresh b (.inr ⟨t,v,hu,hb⟩) with h1|h1
  ·rcases hx.fresh b h1 with h2|h2
   ·exact h2.elim id fun ⟨_,_,h,_⟩=>by cases h
   ·omega
  ·have:=hx.kp.size;omega
 have hpr:PR (fun b=>b<w.heap.size) (z3h new w') (.seq n0 rows) v:=by
  obtain ⟨flat,hown,hn0,hf0,h10⟩:=hor
  have hor' : OR s2.N (fun b=>b<w.heap.size) l2 (z3h new w') v (.row e0 n0 rows):=⟨flat,hown,hn0,fun k r j x hk hx'=>by
   obtain ⟨z,g1,g2⟩:=hf0 k r j x hk hx'
   obtain ⟨y,rfl⟩:=hsc r (List.mem_of_getElem? hk) x (List.mem_of_getElem? hx')
   exact ⟨z,g1,by cases g2 with|val _ h=>exact .val _ h⟩,h10⟩
  exact hor'.seq (fun b hb=>hb) hfr
 have hleave:LeavesInM Fence.wide 0 P fn a'.tmps (fun e w' => ∃ v',e = .returned v' ∧ Blw w.heap.size w w' ∧ PR (fun b=>b<w.heap.size) w' (.seq n0 rows) v') a'.defers .returning w':=by
  rw [hrel.defers,e1]
  exact z1w new w' hnd (fun D hD=>(hnew D hD).2.2) ⟨v,hrun,v,rfl,hbel,hpr⟩
 rcases he with rfl|rfl
 ·exact hleave
 ·exact hleave
set_option linter.defProp false in
def bz := And.intro @z0R.eq_1 (And.intro @frOf.eq_1 (And.intro @frOf.eq_2 (And.intro @List.map_cons.{0, 0} @List.map_nil.{0, 0})))
def Cs (N:Nat) (D:Nat→Prop) (loc:Nat→Option Value) (w:World) (cs:List AV) (vs:Array Value):Prop:=vs.size=cs.length∧(∀ j x,cs[j]? = some x→AR N D loc w x (vs.getD j undef)) ∧ ∀ j,j<vs.size→(vs.getD j undef).oneCell' = true
def z5j (cells:Array Value) (off:Nat) (vs:Array Value):Array Value:=vs.zipIdx.foldl (fun cs (c,j)=>cs.setIfInBounds (off+j) c) cells
theorem z5u (off:Nat) : ∀ (vs:List Value) (k:Nat) (cells:Array Value),off+k+vs.length≤cells.size →
  ((vs.zipIdx k).foldl (fun cs (p:Value × Nat)=>cs.setIfInBounds (off+p.2) p.1) cells).toList=qf cells.toList (off+k) vs
 | [],k,cells,_=>by simp [qf]
 | v :: r,k,cells,h=>by
  simp only [List.length_cons] at h
  rw [List.zipIdx_cons,List.foldl_cons,z5u off r (k+1) _ (by simp;omega)]
  apply List.ext_getElem?
  intro j
  rw [qb (by simp;omega),qb (by simp;omega)]
  simp only [List.length_cons,Array.getElem?_toList,Array.getElem?_setIfInBounds]
  by_cases e1:off+(k+1)≤j∧j<off+(k+1)+r.length
  ·rw [if_pos e1,if_pos (by omega)]
   rw [show j-(off+k)=(j-(off+(k+1)))+1 by omega];rfl
  ·rw [if_neg e1]
   by_cases e2:off+k=j
   ·subst e2
    rw [if_pos rfl,if_pos (by omega),if_pos (by omega)]
    simp
   ·rw [if_neg e2,if_neg (by omega)]
theorem z4o {cells vs:Array Value} {off:Nat} (h:off+vs.size≤cells.size):(z5j cells off vs).toList=qf cells.toList off vs.toList:=by
 unfold z5j
 rw [← Array.foldl_toList,Array.toList_zipIdx]
 exact z5u off vs.toList 0 cells (by simpa using h)
theorem Cs.splice {N:Nat} {D:Nat→Prop} {loc:Nat→Option Value} {w:World} {cs xs:List AV} {us vs:Array Value} {off:Nat} (h:Cs N D loc w cs us) (k:Cs N D loc w xs vs) (hl:off+xs.length≤cs.length):Cs N D loc w (qf cs off xs) (z5j us off vs):=by
 have hle:off+vs.size≤us.size:=by rw [k.1,h.1];exact hl
 have hlen:(z5j us off vs).size=us.size:=by
  have:=congrArg List.length (z4o hle)
  rw [qQ (by simpa using hle)] at this
  simpa using this
 have hget : ∀ j,(z5j us off vs).getD j undef=if off≤j∧j<off+xs.length then vs.getD (j-off) undef else us.getD j undef:=fun j=>by
  rw [Array.getD_eq_getD_getElem?,← Array.getElem?_toList,z4o hle,qb (by simpa using hle)]
  simp only [Array.length_toList,k.1]
  split <;> rw [Array.getElem?_toList,Array.getD_eq_getD_getElem?]
 refine ⟨by rw [hlen,h.1,qQ hl],fun j x hx=>?_,fun j hj=>?_⟩
 ·rw [hget]
  rw [qb hl] at hx
  split
  ·rename_i hc;rw [if_pos hc] at hx;exact k.2.1 _ x hx
  ·rename_i hc;rw [if_neg hc] at hx;exact h.2.1 _ x hx
 ·rw [hget]
  split
  ·exact k.2.2 _ (by rw [k.1];omega)
  ·exact h.2.2 _ (by omega)
def z4x (place:Nat→Option (Nat × Nat)):List AV→List (Nat × AV)→Option (List AV)
 | cs,[]=>some cs
 | cs,(i,x) :: r=>match place i,z0q x with
  | some (off,size),some xs=>if xs.length=size∧off+xs.length≤cs.length then z4x place (qf cs off xs) r else none
  | _,_=>none
theorem z4X {N:Nat} {D:Nat→Prop} {loc:Nat→Option Value} {w:World} {place:Nat→Option (Nat × Nat)} : ∀ {ps:List (Nat × AV)} {qs:List (Nat × Value)} {cs cs' : List AV} {us:Array Value},qs.length=ps.length→(∀ (j:Nat) i x i' v,ps[j]? = some (i,x)→qs[j]? = some (i',v)→i=i' ∧ AR N D loc w x v) →
  Cs N D loc w cs us→z4x place cs ps=some cs' → ∃ us',Instr.fill place us qs=some us' ∧ Cs N D loc w cs' us'
 | [],[],cs,cs',us,_,_,hc,h=>by cases h;exact ⟨us,rfl,hc⟩
 | (i,x) :: ps,(i',v) :: qs,cs,cs',us,hl,hpq,hc,h=>by
  obtain ⟨rfl,hx⟩:=hpq 0 i x i' v rfl rfl
  simp only [z4x] at h
  split at h
  ·rename_i off size xs hp hxs
   split at h
   ·rename_i hcond
    have hk:Cs N D loc w xs v.cells:=z2B hx hxs
    obtain ⟨us',h1,h2⟩:=z4X (ps:=ps) (qs:=qs) (by simpa using hl) (fun j a b c d e f=>hpq (j+1) a b c d e f) (hc.splice hk hcond.2) h
    refine ⟨us',?_,h2⟩
    rw [Instr.fill,hp]
    simp only
    rw [if_neg (by rw [hk.1,hc.1];simp [hcond.1];have:=hcond.2;omega)]
    exact h1
   ·cases h
  ·cases h
def qp (P:Program) (t:TypeId):Option (List Value × List (Nat × Nat)):=match P.underlying t,zK P t with
 | some (.struct fs),some zs=>(fs.toList.mapM fun f=>(tySz P f.type).map fun n=>(f.offset,n)).map fun pl=>(zs,pl)
 | _,_=>none
def z6q (P:Program) (t:TypeId):Option (List Value × Nat × Nat):=match P.underlying t,zK P t with
 | some (.array n e),some zs=>(tySz P e).map fun k=>(zs,k,n)
 | _,_=>none
theorem z0P {P:Program} {t:TypeId} {zs:List Value} (h:zK P t=some zs) : ∃ i z,P.info? t=some i∧i.zero=some z∧z.cells.toList=zs ∧ ∀ v ∈ zs,v.oneCell' = true:=by
 unfold zK at h
 split at h
 ·rename_i z hz
  split at h
  ·rename_i hone
   cases h
   obtain ⟨i,hi,hiz⟩:=Option.bind_eq_some_iff.1 hz
   exact ⟨i,z,hi,hiz,rfl,fun v hv=>Array.all_eq_true_iff_forall_mem.1 hone v (by simpa using hv)⟩
  ·cases h
 ·cases h
theorem Cs.zero (N:Nat) (D:Nat→Prop) (loc:Nat→Option Value) (w:World) {vs:Array Value} (h : ∀ v ∈ vs.toList,v.oneCell' = true):Cs N D loc w (vs.toList.map fun v => .p (.val v)) vs:=by
 refine ⟨by simp,fun j x hx=>?_,fun j hj=>?_⟩
 ·simp only [List.getElem?_map,Option.map_eq_some_iff] at hx
  obtain ⟨v,hv,rfl⟩:=hx
  have hv' : vs[j]? = some v:=by simpa using hv
  rw [Array.getD_eq_getD_getElem?,hv']
  exact .zV v (h v (List.mem_of_getElem? hv))
 ·rw [Array.getD_eq_getD_getElem?,Array.getElem?_eq_getElem hj]
  exact h _ (by simp)
section
variable {P:Program} {ops:Array Oper} {o:Oper} {s:ASt}
def z9r (P:Program) (s:ASt) (t:TypeId) (parts:List (Nat × Operand)):Option AV:=match qp P t with
 | some (zs,pl)=>(z4x (fun i=>pl[i]?) (zs.map fun v => .p (.val v)) (parts.map fun p=>(p.1,s.ev p.2))).map .agg
 | none=>match z6q P t with
  | some (zs,n,_)=>(z4x (fun i=>some (i*n,n)) (zs.map fun v => .p (.val v)) (parts.map fun p=>(p.1,s.ev p.2))).map .agg
  | none=>none
def fldG (f:Field):Sem (Nat × Nat):=do pure (f.offset,← sizeOf f.type)
theorem z5I {P:Program} {w:World} : ∀ (fs:List Field) (pl:List (Nat × Nat)),(fs.mapM fun f=>(tySz P f.type).map fun n=>(f.offset,n))=some pl→(fs.mapM fldG).run P w = .ok pl w
 | [],pl,h=>by
  simp only [List.mapM_nil,Option.pure_def,Option.some.injEq] at h
  subst h;simp
 | f :: fs,pl,h=>by
  simp only [List.mapM_cons,Option.bind_eq_bind,Option.bind_eq_some_iff,Option.pure_def,Option.some.injEq] at h
  obtain ⟨q,h1,pl',h2,rfl⟩:=h
  obtain ⟨n,hn,rfl⟩:=Option.map_eq_some_iff.1 h1
  obtain ⟨i,hi,hin⟩:=Option.map_eq_some_iff.1 hn
  have hg:(fldG f).run P w = .ok (f.offset,n) w:=by simp [fldG,sizeOf,typeInfo,hi,hin]
  simp only [List.mapM_cons,Sem.run_bind,hg,Result.andThen_ok,z5I fs pl' h2,Sem.run_pure]
theorem z4w {P:Program} {t:TypeId} {fs:Array Field} {i:TypeInfo} {z:Value} {pl:List (Nat × Nat)} (hu:P.underlying t=some (.struct fs)) (hi:P.info? t=some i) (hz:i.zero=some z) (hpl:(fs.toList.mapM fun f=>(tySz P f.type).map fun n=>(f.offset,n))=some pl)
  {parts:Array (Nat × Value)} {cells:Array Value} (hf:Instr.fill (fun k=>pl[k]?) z.cells parts.toList=some cells) (w:World):(Instr.build t parts).run P w = .ok (.agg cells) w:=by
 have hm:(fs.mapM fldG).run P w = .ok pl.toArray w:=by
  obtain ⟨l,rfl⟩ : ∃ l,fs=List.toArray l:=⟨fs.toList,by simp⟩
  have:=z5I (P:=P) (w:=w) l pl (by simpa using hpl)
  rw [List.mapM_toArray]
  change (l.mapM fldG >>= fun a=>pure a.toArray).run P w=_
  simp only [Sem.run_bind,this,Result.andThen_ok,Sem.run_pure]
 have hf' : Instr.fill (fun x=>pl.toArray[x]?) z.cells parts.toList=some cells:=by simpa using hf
 unfold fldG at hm
 unfold Instr.build
 simp only [Sem.run_bind,zeroValue,typeInfo,run_program,Result.andThen_ok,hi,Sem.run_pure,hz,run_underlying hu]
 rw [hm]
 simp only [Result.andThen_ok,hf',Sem.run_pure]
theorem z5g {P:Program} {t e:TypeId} {n k:Nat} {i:TypeInfo} {z:Value} (hu:P.underlying t=some (.array n e)) (hi:P.info? t=some i) (hz:i.zero=some z) (he:tySz P e=some k)
  {parts:Array (Nat × Value)} {cells:Array Value} (hf:Instr.fill (fun i=>some (i*k,k)) z.cells parts.toList=some cells) (w:World):(Instr.build t parts).run P w = .ok (.agg cells) w:=by
 obtain ⟨j,hj,hjk⟩:=Option.map_eq_some_iff.1 he
 unfold Instr.build
 simp only [Sem.run_bind,zeroValue,typeInfo,run_program,Result.andThen_ok,hi,Sem.run_pure,hz,run_underlying hu,sizeOf,hj,hjk,hf]
theorem op_build (t:TypeId) (parts:Array (Nat × Operand)) (av:AV) (h:o.op = .build t parts) (hl:z9r P s t parts.toList=some av):zX P ops o s av := .pure fun L loc a w hr=>by
 have hev : ∀ (j i:Nat) (x:AV) (i' : Nat) (v:Value),(parts.toList.map fun p=>(p.1,s.ev p.2))[j]? = some (i,x)→(parts.map fun (i,x)=>(i,a.eval x)).toList[j]? = some (i',v)→i=i' ∧ AR s.N (Dm L loc) loc w x v:=fun j i x i' v h1 h2=>by
  simp only [Array.toList_map,List.getElem?_map,Option.map_eq_some_iff] at h1 h2
  obtain ⟨p,hp,e1⟩:=h1
  obtain ⟨p',hp',e2⟩:=h2
  rw [hp] at hp'
  cases hp'
  cases e1
  cases e2
  refine ⟨rfl,hr.ev p.2 (zD ?_)⟩
  simp only [h,Op.operands]
  exact List.mem_map.2 ⟨p,List.mem_of_getElem? hp,rfl⟩
 have hlen:(parts.map fun (i,x)=>(i,a.eval x)).toList.length=(parts.toList.map fun p=>(p.1,s.ev p.2)).length:=by simp
 have he : ∀ v,(Instr.build t (parts.map fun (i,x)=>(i,a.eval x))).run P w = .ok v w→(execOp a.eval o).run P w = .ok (.value v) w:=fun v hv=>by simp only [execOp,h,Sem.run_bind,hv,Result.andThen_ok,Sem.run_pure]
 unfold z9r at hl
 split at hl
 ·rename_i zs pl hst
  obtain ⟨cs',hf,rfl⟩:=Option.map_eq_some_iff.1 hl
  unfold qp at hst
  split at hst
  ·rename_i fs zs' hu hz
   obtain ⟨pl',hpl,e⟩:=Option.map_eq_some_iff.1 hst
   cases e
   obtain ⟨i,z,hi,hiz,rfl,hone⟩:=z0P hz
   obtain ⟨us',h1,h2⟩:=z4X hlen hev (Cs.zero s.N (Dm L loc) loc w (vs:=z.cells) hone) hf
   exact ⟨.agg us',he _ (z4w hu hi hiz hpl h1 w),.agg cs' us' h2.1 h2.2.1 h2.2.2⟩
  ·cases hst
 ·split at hl
  ·rename_i zs n m hst
   obtain ⟨cs',hf,rfl⟩:=Option.map_eq_some_iff.1 hl
   unfold z6q at hst
   split at hst
   ·rename_i k e' zs' hu hz
    obtain ⟨k',hk,e⟩:=Option.map_eq_some_iff.1 hst
    cases e
    obtain ⟨i,z,hi,hiz,rfl,hone⟩:=z0P hz
    obtain ⟨us',h1,h2⟩:=z4X hlen hev (Cs.zero s.N (Dm L loc) loc w (vs:=z.cells) hone) hf
    exact ⟨.agg us',he _ (z5g hu hi hiz hk h1 w),.agg cs' us' h2.1 h2.2.1 h2.2.2⟩
   ·cases hst
  ·cases hl
def z7h:List AV→Option (List PV)
 | []=>some []
 | .p x :: r=>(z7h r).map (x :: ·)
 | _=>none
theorem z2S : ∀ {cs:List AV} {xs:List PV},z7h cs=some xs→cs=xs.map .p
 | [],xs,h=>by cases h;rfl
 | c :: r,xs,h=>by
  cases c <;> try cases h
  rename_i x
  obtain ⟨ys,hy,rfl⟩:=Option.map_eq_some_iff.1 h
  rw [z2S hy];rfl
def chunks {α:Type} (n:Nat):Nat→List α→List (List α)
 | 0,_ => []
 | k+1,l=>l.take n :: chunks n k (l.drop n)
theorem qM {α:Type} (n:Nat) : ∀ (k:Nat) (l:List α),(chunks n k l).length=k
 | 0,_=>rfl
 | k+1,l=>by simp [chunks,qM n k]
theorem z1R {α:Type} (n:Nat) : ∀ (k:Nat) (l:List α) (i:Nat) (r:List α),(chunks n k l)[i]? = some r→r=(l.drop (i*n)).take n
 | 0,l,i,r,h=>by simp [chunks] at h
 | k+1,l,0,r,h=>by simp [chunks] at h;simp [h]
 | k+1,l,i+1,r,h=>by
  simp only [chunks,List.getElem?_cons_succ] at h
  rw [z1R n k _ i r h,List.drop_drop]
  congr 2
  rw [Nat.add_mul];omega
def z3r (P:Program) (s:ASt) (t:TypeId) (len:Nat) (parts:List (Nat × Operand)):Option AV:=match P.underlying t with
 | some (.slice e)=>match zK P e,tySz P e with
  | some zs,some n=>if zs.length=n ∧ 0<n∧len*n≤16777216∧len≤maxLen then match z4x (fun i=>some (i*n,n)) ((List.range (len*n)).map fun j => .p (.val (zs.getD (j % n) undef))) (parts.map fun p=>(p.1,s.ev p.2)) with
   | some cs=>(z7h cs).map fun xs => .p (.seq n (chunks n len xs))
   | none=>none
   else none
  | _,_=>none
 | _=>none
end
section
variable {P:Program} {ops:Array Oper} {o:Oper} {s:ASt}
theorem PR.of_block {D:Nat→Prop} {w:World} {n:Nat} {rows:List (List PV)} {b cap:Nat} {arr:Array Value} {ty:TypeId} {fr:Nat × Nat} (h:w.heap[b]? = some (.cells arr ty fr)) (hD : ¬ D b) (hcap:rows.length≤cap) (hmax:cap≤maxLen) (hn : ∀ r ∈ rows,r.length=n)
  (hv : ∀ (k:Nat) r (j:Nat) x,rows[k]? = some r→r[j]? = some x → ∃ v,arr[k*n+j]? = some v∧PR D w x v):PR D w (.seq n rows) (.slice (some ⟨b,0,none⟩) rows.length cap):=by
 refine .seq n b 0 cap rows (fun k j=>arr.getD (k*n+j) undef) (Array.getElem?_eq_some_iff.1 h).1 hD hcap hmax hn (fun k r j x h1 h2=>?_) (fun k r j x h1 h2=>?_)
 ·obtain ⟨v,h3,h4⟩:=hv k r j x h1 h2
  rw [z15 h,Nat.zero_add,h3,Array.getD_eq_getD_getElem?,h3];rfl
 ·obtain ⟨v,h3,h4⟩:=hv k r j x h1 h2
  rw [Array.getD_eq_getD_getElem?,h3];exact h4
theorem op_buildS (t:TypeId) (len:Nat) (parts:Array (Nat × Operand)) (av:AV) (h:o.op = .buildSlice t len parts) (hl:z3r P s t len parts.toList=some av):zX P ops o s av:=fun L loc a w hr=>by
 have hev : ∀ (j i:Nat) (x:AV) (i' : Nat) (v:Value),(parts.toList.map fun p=>(p.1,s.ev p.2))[j]? = some (i,x)→(parts.map fun (i,x)=>(i,a.eval x)).toList[j]? = some (i',v)→i=i' ∧ AR s.N (Dm L loc) loc w x v:=fun j i x i' v h1 h2=>by
  simp only [Array.toList_map,List.getElem?_map,Option.map_eq_some_iff] at h1 h2
  obtain ⟨p,hp,e1⟩:=h1
  obtain ⟨p',hp',e2⟩:=h2
  rw [hp] at hp'
  cases hp'
  cases e1
  cases e2
  refine ⟨rfl,hr.ev p.2 (zD ?_)⟩
  simp only [h,Op.operands]
  exact List.mem_map.2 ⟨p,List.mem_of_getElem? hp,rfl⟩
 have hlen:(parts.map fun (i,x)=>(i,a.eval x)).toList.length=(parts.toList.map fun p=>(p.1,s.ev p.2)).length:=by simp
 unfold z3r at hl
 split at hl
 ·rename_i e hu
  split at hl
  ·rename_i zs n hz hs
   split at hl
   ·rename_i hcond
    obtain ⟨hzl,hn0,hmax,hml⟩:=hcond
    split at hl
    ·rename_i cs hf
     obtain ⟨xs,hxs,rfl⟩:=Option.map_eq_some_iff.1 hl
     obtain ⟨i,z,hi,hiz,hzc,hone⟩:=z0P hz
     have hzsz:z.cells.size=n:=by rw [← hzl,← hzc];simp
     have hz0:Cs s.N (Dm L loc) loc w ((List.range (len*n)).map fun j => .p (.val (zs.getD (j % n) undef))) ((Array.range (len*n)).map fun j=>z.cells[j % z.cells.size]!):=by
      have e1 : ∀ j,z.cells[j % z.cells.size]! = zs.getD (j % n) undef:=fun j=>by
       have:j % n<z.cells.size:=by rw [hzsz];exact Nat.mod_lt _ hn0
       rw [hzsz,getElem!_pos z.cells _ this,← hzc,List.getD_eq_getElem?_getD,Array.getElem?_toList,Array.getElem?_eq_getElem this]
       rfl
      have e2:(Array.range (len*n)).map (fun j=>z.cells[j % z.cells.size]!)=((List.range (len*n)).map fun j=>zs.getD (j % n) undef).toArray:=by
       apply Array.ext'
       simp [e1]
      rw [e2]
      have:=Cs.zero s.N (Dm L loc) loc w (vs:=((List.range (len*n)).map fun j=>zs.getD (j % n) undef).toArray) (fun v hv=>by
       obtain ⟨j,_,rfl⟩:=List.mem_map.1 (show v ∈ (List.range (len*n)).map (fun j=>zs.getD (j % n) undef) from hv)
       have:j % n<zs.length:=by rw [hzl];exact Nat.mod_lt _ hn0
       rw [List.getD_eq_getElem?_getD,List.getElem?_eq_getElem this]
       exact hone _ (List.getElem_mem this))
      simpa [List.map_map,Function.comp_def] using this
     obtain ⟨us',h1,h2⟩:=z4X hlen hev hz0 hf
     obtain ⟨i',hi',his⟩:=Option.map_eq_some_iff.1 hs
     rw [hi] at hi'
     cases hi'
     have hrun:(Instr.buildSlice t len (parts.map fun (i,x)=>(i,a.eval x))).run P w = .ok (.slice (some ⟨w.heap.size,0,none⟩) len len) (w.alloc (.cells us' e)):=by
      have hm : ¬ (len*n > 2 ^ 24):=by omega
      have hnr : ∀ c:Array Value,(newRow e c).run P w = .ok ⟨w.heap.size,0,none⟩ (w.alloc (.cells c e)):=fun c=>by simp [newRow]
      unfold Instr.buildSlice
      by_cases h0:len*n=0
      ·have e3:(Array.range (len*n)).map (fun j=>z.cells[j % z.cells.size]!)=(Array.range (len*n)).map (fun j=>(#[] : Array Value)[j % (#[] : Array Value).size]!):=by rw [h0];apply Array.ext';simp
       rw [e3] at h1
       simp only [Sem.run_bind,run_underlying hu,Result.andThen_ok,sizeOf,typeInfo,run_program,hi,his,Sem.run_pure,if_neg hm,if_pos h0,h1,hnr]
      ·simp only [Sem.run_bind,run_underlying hu,Result.andThen_ok,sizeOf,typeInfo,run_program,hi,his,Sem.run_pure,if_neg hm,if_neg h0,zeroValue,hiz,h1,hnr]
     refine .inl ⟨_,_,by simp only [execOp,h,Sem.run_bind,hrun,Result.andThen_ok,Sem.run_pure];rfl,(Blw.refl _ _).alloc (Nat.le_refl _) _,?_⟩
     have hbl:Blw w.heap.size w (w.alloc (.cells us' e)):=(Blw.refl _ _).alloc (Nat.le_refl _) _
     have hcs:=z2S hxs
     have hcl:cs.length=len*n:=by
      have : ∀ (ps:List (Nat × AV)) (c c' : List AV),z4x (fun i=>some (i*n,n)) c ps=some c' → c'.length=c.length:=by
       intro ps
       induction ps with
       | nil=>intro c c' h;cases h;rfl
       | cons p r ih =>
        intro c c' h
        obtain ⟨k,x⟩:=p
        simp only [z4x] at h
        split at h
        ·split at h
         ·rename_i hc
          rw [ih _ _ h,qQ hc.2]
         ·cases h
        ·cases h
      rw [this _ _ _ hf];simp
     have hxl:xs.length=len*n:=by rw [← hcl,hcs];simp
     have:=PR.of_block (D:=Dm L loc) (rows:=chunks n len xs) (cap:=len) (n:=n) (qD w (.cells us' e) _ rfl) (fun hd=>Nat.lt_irrefl _ (hr.hp.z8s hd)) (by rw [qM];exact Nat.le_refl _) hml (fun r hr'=>?_) (fun k r j x hk hx=>?_)
     ·rw [qM] at this
      exact .p _ _ this
     ·obtain ⟨k,hk,rfl⟩:=List.mem_iff_getElem.1 hr'
      rw [qM] at hk
      have e1:=z1R n len xs k _ (List.getElem?_eq_getElem (by rw [qM];exact hk))
      rw [e1,List.length_take,List.length_drop,hxl]
      have:(k+1)*n≤len*n:=Nat.mul_le_mul_right n hk
      rw [Nat.add_mul] at this
      omega
     ·have e1:=z1R n len xs k _ hk
      rw [e1,List.getElem?_take] at hx
      split at hx
      ·rw [List.getElem?_drop] at hx
       have hx' : cs[k*n+j]? = some (.p x):=by rw [hcs,List.getElem?_map,hx];rfl
       have h5:=h2.2.1 _ _ hx'
       have hlt:=(List.getElem?_eq_some_iff.1 hx').1
       rw [← h2.1] at hlt
       rw [Array.getD_eq_getD_getElem?,Array.getElem?_eq_getElem hlt] at h5
       refine ⟨_,Array.getElem?_eq_getElem hlt,?_⟩
       cases h5 with
       | p _ _ hp=>exact hp.mono (.of_below hbl) (fun _ _ h=>h)
      ·cases hx
    ·cases hl
   ·cases hl
  ·cases hl
 ·cases hl
def z4q (P:Program) (s:ASt) (t:TypeId) (lo hi:Option Int) (x:AV):Option AV:=match x with
 | .own tag=>match s.hp.lookup tag with
  | some (.row _ n rows)=>if z05 P t=some n∧lo=none ∧ 0<rows.length ∧ 0≤hi.getD rows.length∧hi.getD rows.length≤rows.length then some (.pre tag (hi.getD rows.length).toNat) else if z05 P t=some n∧hi=none ∧ 0≤lo.getD 0∧(lo.getD 0).toNat<rows.length then some (.suf tag n (lo.getD 0).toNat) else none
  | _=>none
 | .suf tag n m=>match s.hp.lookup tag with
  | some (.row _ n' rows)=>if n' = n∧z05 P t=some n∧hi=none ∧ 0≤lo.getD 0∧m+(lo.getD 0).toNat≤rows.length ∧ 0<rows.length then some (.suf tag n (m+(lo.getD 0).toNat)) else none
  | _=>none
 | .p (.seq n rows)=>if z05 P t=some n ∧ 0≤lo.getD 0∧lo.getD 0≤hi.getD rows.length∧hi.getD rows.length≤rows.length then some (.p (.seq n ((rows.take (hi.getD rows.length).toNat).drop (lo.getD 0).toNat))) else none
 | .p (.val (.slice none 0 0))=>if (z05 P t).isSome=true∧lo.getD 0=0∧hi.getD 0=0 then some x else none
 | _=>none
def evI (s:ASt) (x:Option Operand):Option (Option Int):=match x with
 | none=>some none
 | some x=>match s.ev x with
  | .p (.val (.int _ n))=>some (some n)
  | _=>none
theorem PR.slice {D:Nat→Prop} {w:World} {n:Nat} {rows:List (List PV)} {ad:Option Addr} {len cap:Nat} (h:PR D w (.seq n rows) (.slice ad len cap)) {l u:Nat} (hlu:l≤u) (hu:u≤rows.length) :
  len=rows.length∧rows.length≤cap∧PR D w (.seq n ((rows.take u).drop l)) (.slice (if cap=l then ad else ad.map (·.add (l*n))) (u-l) (cap-l)):=by
 cases h with
 | nil n a cap h0 =>
  obtain rfl:u=0:=by simpa using hu
  obtain rfl:l=0:=by omega
  refine ⟨rfl,Nat.zero_le _,?_⟩
  have:=PR.nil (D:=D) (w:=w) n (if cap=0 then ad else ad.map (·.add (0*n))) (cap-0) (fun e=>by
   split at e
   ·omega
   ·have:=h0 (by simpa using e);omega)
  simpa using this
 | seq n b off cap rows f hb hnD hcap hmax hn hc hr =>
  refine ⟨rfl,hcap,?_⟩
  have hlen:((rows.take u).drop l).length=u-l:=by simp;omega
  have hget : ∀ k r,((rows.take u).drop l)[k]? = some r→rows[l+k]? = some r:=fun k r h=>by
   rw [List.getElem?_drop,List.getElem?_take] at h
   split at h
   ·exact h
   ·cases h
  have main:PR D w (.seq n ((rows.take u).drop l)) (.slice (some ⟨b,off+l*n,none⟩) ((rows.take u).drop l).length (cap-l)):=by
   refine .seq n b (off+l*n) (cap-l) _ (fun k j=>f (l+k) j) hb hnD (by omega) (by omega) (fun r hr'=>hn r (List.mem_of_mem_take (List.mem_of_mem_drop hr'))) (fun k r j x hk hx=>?_) (fun k r j x hk hx=>hr _ r j x (hget k r hk) hx)
   rw [← hc _ r j x (hget k r hk) hx]
   congr 2
   rw [Nat.add_mul];omega
  by_cases e:cap=l
  ·rw [if_pos e]
   have h0:(rows.take u).drop l = []:=List.eq_nil_of_length_eq_zero (by omega)
   rw [h0]
   have h1:u-l=0:=by omega
   have:=PR.seq (D:=D) (w:=w) n b off (cap-l) [] (fun _ _=>undef) hb hnD (by simp) (by omega) (fun r h=>by cases h) (fun k r j x h=>by simp at h) (fun k r j x h=>by simp at h)
   rw [h1]
   exact this
  ·rw [if_neg e]
   rw [hlen] at main
   have e2:(some (⟨b,off,none⟩ : Addr)).map (·.add (l*n))=some ⟨b,off+l*n,none⟩:=by simp [Addr.add_mid]
   rw [e2]
   exact main
theorem za6 {P:Program} {w:World} {len cap:Nat} {lo hi:Option Value} {l u:Int} (hlo:(lo=none∧l=0) ∨ ∃ k,lo=some (.int k l)) (hhi:(hi=none∧u=len) ∨ ∃ k,hi=some (.int k u)) (h0 : 0≤l) (h1:l≤u) (h2:u≤len) (h3:len≤cap) :
  (Instr.sliceBounds true len cap lo hi none).run P w = .ok (l.toNat,u.toNat,cap) w:=by
 have hu0 : 0≤u:=by omega
 have huc:u≤(cap:Int):=by omega
 have hlu:l≤((u.toNat:Nat):Int):=by omega
 rcases hlo with ⟨rfl,rfl⟩|⟨k,rfl⟩ <;> rcases hhi with ⟨rfl,rfl⟩|⟨k',rfl⟩ <;> simp [Instr.sliceBounds,Instr.sliceBound,asIntOf,hu0,huc,hlu,h0]
 all_goals first|omega|(intro _;omega)
theorem op_slice (t:TypeId) (x:Operand) (lo hi:Option Operand) (li ui:Option Int) (av:AV) (h:o.op = .slice t x lo hi none) (h1:evI s lo=some li) (h2:evI s hi=some ui) (hl:z4q P s t li ui (s.ev x)=some av):zX P ops o s av := .pure fun L loc a w hr=>by
 have hx:=hr.ev x (zD (by simp [h,Op.operands]))
 have hlo : ∀ n,(lo.map a.eval=none∧li.getD n=n∧li=none) ∨ ∃ k m,lo.map a.eval=some (.int k m)∧li=some m:=fun n=>by
  cases lo with
  | none=>cases h1;exact .inl ⟨rfl,rfl,rfl⟩
  | some y =>
   simp only [evI] at h1
   split at h1
   ·rename_i k m hy
    cases h1
    have:=hr.ev y (zD (by simp [h,Op.operands]))
    rw [hy] at this
    exact .inr ⟨k,m,by simp [this.val],rfl⟩
   ·cases h1
 have hhi : ∀ n,(hi.map a.eval=none∧ui.getD n=n∧ui=none) ∨ ∃ k m,hi.map a.eval=some (.int k m)∧ui=some m:=fun n=>by
  cases hi with
  | none=>cases h2;exact .inl ⟨rfl,rfl,rfl⟩
  | some y =>
   simp only [evI] at h2
   split at h2
   ·rename_i k m hy
    cases h2
    have:=hr.ev y (zD (by simp [h,Op.operands]))
    rw [hy] at this
    exact .inr ⟨k,m,by simp [this.val],rfl⟩
   ·cases h2
 have he : ∀ v,(Instr.sliceAt t (a.eval x) (lo.map a.eval) (hi.map a.eval) none).run P w = .ok v w→(execOp a.eval o).run P w = .ok (.value v) w:=fun v hv=>by simp only [execOp,h,Option.map_none,Sem.run_bind,hv,Result.andThen_ok,Sem.run_pure]
 have hrunS : ∀ {ad:Option Addr} {len cap n:Nat} {l u:Int},z05 P t=some n→((lo.map a.eval=none∧l=0) ∨ ∃ k,lo.map a.eval=some (.int k l))→((hi.map a.eval=none∧u=len) ∨ ∃ k,hi.map a.eval=some (.int k u)) → 0≤l→l≤u→u≤len→len≤cap →
   (Instr.sliceAt t (.slice ad len cap) (lo.map a.eval) (hi.map a.eval) none).run P w = .ok (.slice (if cap=l.toNat then ad else ad.map (·.add (l.toNat*n))) (u.toNat-l.toNat) (cap-l.toNat)) w:=by
  intro ad len cap n l u he hlo hhi g0 g1 g2 g3
  unfold z05 at he
  split at he
  ·rename_i e hu
   obtain ⟨i,hi',hin⟩:=Option.map_eq_some_iff.1 he
   have hb:=za6 (P:=P) (w:=w) hlo hhi g0 g1 g2 g3
   simp only [Instr.sliceAt,Instr.slice,Sem.run_bind,run_underlying hu,Result.andThen_ok,hb,sizeOf,typeInfo,run_program,hi',hin,Sem.run_pure]
  ·cases he
 generalize a.eval x=v at *
 generalize s.ev x=y at *
 unfold z4q at hl
 split at hl
 ·rename_i tag
  cases hlk:s.hp.lookup tag with
  | none=>rw [hlk] at hl;cases hl
  | some ob =>
   rw [hlk] at hl
   obtain ⟨htN,u',hu',hor⟩:=hr.hp.at' tag ob hlk
   cases ob with
   | map _ _ _ _ _=>cases hl
   | raw _ _=>cases hl
   | lrec _ _ _=>cases hl
   | amap _ _ _ _ _=>cases hl
   | arow _ _=>cases hl
   | boxP pin ty cs=>cases hl
   | row e n rows =>
    simp only at hl
    split at hl
    ·rename_i hcond
     obtain ⟨c1,c2,c0,c3,c4⟩:=hcond
     cases hl
     obtain ⟨flat,hown,_⟩:=hor
     cases hx with
     | own _ _ _ _ hv =>
     obtain rfl:=hv _ hu'
     rcases hown.2 with ⟨_,h0⟩|⟨g,cap,cur,rfl,_,_,hle,_⟩
     ·omega
     ·have hn0:hi.map a.eval=none∧ui.getD rows.length=(rows.length:Int) ∨ ∃ k,hi.map a.eval=some (.int k (ui.getD rows.length)):=by
       rcases hhi rows.length with ⟨g1,g2,_⟩|⟨k,m,g1,rfl⟩
       ·exact .inl ⟨g1,g2⟩
       ·exact .inr ⟨k,g1⟩
      have hl0:lo.map a.eval=none∧(0:Int)=0 ∨ ∃ k,lo.map a.eval=some (.int k 0):=by
       rcases hlo 0 with ⟨g1,_,_⟩|⟨k,m,g1,e⟩
       ·exact .inl ⟨g1,rfl⟩
       ·rw [c2] at e;cases e
      have:=hrunS (ad:=some ⟨g,0,none⟩) (len:=rows.length) (cap:=cap) (l := 0) (u:=ui.getD rows.length) c1 hl0 hn0 (by omega) c3 c4 hle
      have e2:(if cap=(0:Int).toNat then (some (⟨g,0,none⟩ : Addr)) else (some (⟨g,0,none⟩ : Addr)).map (·.add ((0:Int).toNat*n)))=some ⟨g,0,none⟩:=by
       rw [if_neg (by simp;omega)];simp [Addr.add_mid]
      rw [e2] at this
      refine ⟨_,he _ this,.pre tag _ _ htN rfl fun b l c hb=>?_⟩
      rw [hu'] at hb
      cases hb
      rfl
    ·split at hl
     ·rename_i hcond
      obtain ⟨c1,c2,c3,c4⟩:=hcond
      cases hl
      obtain ⟨flat,hown,_⟩:=hor
      cases hx with
      | own _ _ _ _ hv =>
      obtain rfl:=hv _ hu'
      rcases hown.2 with ⟨_,h0⟩|⟨g,cap,cur,rfl,_,_,hle,_⟩
      ·omega
      ·have hn0:hi.map a.eval=none∧((rows.length:Nat):Int)=(rows.length:Int) ∨ ∃ k,hi.map a.eval=some (.int k ((rows.length:Nat):Int)):=by
        rcases hhi rows.length with ⟨g1,_,_⟩|⟨k,m,g1,e⟩
        ·exact .inl ⟨g1,rfl⟩
        ·rw [c2] at e;cases e
       have hl0:lo.map a.eval=none∧li.getD 0=0 ∨ ∃ k,lo.map a.eval=some (.int k (li.getD 0)):=by
        rcases hlo 0 with ⟨g1,g2,_⟩|⟨k,m,g1,rfl⟩
        ·exact .inl ⟨g1,g2⟩
        ·exact .inr ⟨k,g1⟩
       have:=hrunS (ad:=some ⟨g,0,none⟩) (len:=rows.length) (cap:=cap) (l:=li.getD 0) (u:=((rows.length:Nat):Int)) c1 hl0 hn0 c3 (by omega) (Int.le_refl _) hle
       rw [if_neg (by omega),Option.map_some,Addr.add_mid,Nat.zero_add] at this
       refine ⟨_,he _ this,.suf tag n _ _ htN rfl fun b l c hb=>?_⟩
       rw [hu'] at hb
       cases hb
       exact ⟨_,rfl,fun _=>rfl⟩
     ·cases hl
 ·rename_i tag n m
  cases hlk:s.hp.lookup tag with
  | none=>rw [hlk] at hl;cases hl
  | some ob =>
   rw [hlk] at hl
   obtain ⟨htN,u',hu',hor⟩:=hr.hp.at' tag ob hlk
   cases ob with
   | map _ _ _ _ _=>cases hl
   | raw _ _=>cases hl
   | lrec _ _ _=>cases hl
   | amap _ _ _ _ _=>cases hl
   | arow _ _=>cases hl
   | boxP pin ty cs=>cases hl
   | row e n' rows =>
    simp only at hl
    split at hl
    ·rename_i hcond
     obtain ⟨rfl,c1,c2,c3,c4,c5⟩:=hcond
     cases hl
     obtain ⟨flat,hown,_⟩:=hor
     cases hx with
     | suf _ _ _ _ _ _ hv =>
     rcases hown.2 with ⟨_,h0⟩|⟨g,cap,cur,rfl,_,_,hle,_⟩
     ·omega
     ·obtain ⟨oo,rfl,hoo⟩:=hv _ _ _ hu'
      have hn0:hi.map a.eval=none∧((rows.length-m:Nat):Int)=((rows.length-m:Nat):Int) ∨ ∃ k,hi.map a.eval=some (.int k ((rows.length-m:Nat):Int)):=by
       rcases hhi rows.length with ⟨g1,_,_⟩|⟨k,q,g1,e⟩
       ·exact .inl ⟨g1,rfl⟩
       ·rw [c2] at e;cases e
      have hl0:lo.map a.eval=none∧li.getD 0=0 ∨ ∃ k,lo.map a.eval=some (.int k (li.getD 0)):=by
       rcases hlo 0 with ⟨g1,g2,_⟩|⟨k,q,g1,rfl⟩
       ·exact .inl ⟨g1,g2⟩
       ·exact .inr ⟨k,g1⟩
      have:=hrunS (ad:=some ⟨g,oo,none⟩) (len:=rows.length-m) (cap:=cap-m) (l:=li.getD 0) (u:=((rows.length-m:Nat):Int)) c1 hl0 hn0 c3 (by omega) (Int.le_refl _) (by omega)
      rw [Int.toNat_natCast,Nat.sub_sub,Nat.sub_sub] at this
      have e3:(if cap-m=(li.getD 0).toNat then (some (⟨g,oo,none⟩ : Addr)) else (some (⟨g,oo,none⟩ : Addr)).map (·.add ((li.getD 0).toNat*n')))=some ⟨g,if cap-m=(li.getD 0).toNat then oo else oo+(li.getD 0).toNat*n',none⟩:=by
       split
       ·rfl
       ·simp [Addr.add_mid]
      rw [e3] at this
      refine ⟨_,he _ this,.suf tag n' _ _ htN rfl fun b l c hb=>?_⟩
      rw [hu'] at hb
      cases hb
      refine ⟨_,rfl,fun hlt=>?_⟩
      rw [if_neg (by omega),hoo (by omega),← Nat.add_mul]
    ·cases hl
 ·rename_i n rows
  split at hl
  ·rename_i hcond
   obtain ⟨c1,c2,c3,c4⟩:=hcond
   cases hl
   cases hx with
   | p _ _ hp =>
   have hsl : ∃ ad len cap,v = .slice ad len cap:=by
    cases hp with
    | nil n a cap h0=>exact ⟨_,_,_,rfl⟩
    | seq=>exact ⟨_,_,_,rfl⟩
   obtain ⟨ad,len,cap,rfl⟩:=hsl
   obtain ⟨e1,e2,e3⟩:=hp.slice (l:=(li.getD 0).toNat) (u:=(ui.getD rows.length).toNat) (by omega) (by omega)
   subst e1
   refine ⟨_,he _ (hrunS c1 (l:=li.getD 0) (u:=ui.getD rows.length) ?_ ?_ c2 c3 c4 e2),.p _ _ e3⟩
   ·rcases hlo 0 with ⟨g1,g2,_⟩|⟨k,m,g1,rfl⟩
    ·exact .inl ⟨g1,g2⟩
    ·exact .inr ⟨k,g1⟩
   ·rcases hhi rows.length with ⟨g1,g2,_⟩|⟨k,m,g1,rfl⟩
    ·exact .inl ⟨g1,g2⟩
    ·exact .inr ⟨k,g1⟩
  ·cases hl
 ·split at hl
  ·rename_i hcond
   obtain ⟨c1,c2,c3⟩:=hcond
   cases hl
   obtain ⟨n,c1⟩:=Option.isSome_iff_exists.1 c1
   obtain rfl:=hx.val
   have:=hrunS (ad:=none) (len := 0) (cap := 0) (l := 0) (u := 0) c1 ?_ ?_ (by omega) (by omega) (by simp) (by simp)
   ·exact ⟨_,he _ this,.zV _ rfl⟩
   ·rcases hlo 0 with ⟨g1,_,_⟩|⟨k,m,g1,rfl⟩
    ·exact .inl ⟨g1,rfl⟩
    ·simp at c2;subst c2;exact .inr ⟨k,g1⟩
   ·rcases hhi 0 with ⟨g1,_,_⟩|⟨k,m,g1,rfl⟩
    ·exact .inl ⟨g1,rfl⟩
    ·simp at c3;subst c3;exact .inr ⟨k,g1⟩
  ·cases hl
 ·cases hl
end
section
variable {P:Program} {ops:Array Oper} {o:Oper} {s:ASt}
theorem z7n {N:Nat} {D:Nat→Prop} {loc:Nat→Option Value} {w:World} {t:TypeId} {cs:List AV} {vs:Array Value} {off:Nat} {av:AV} (hc:Cs N D loc w cs vs) (h:z2x P t cs off=some av) : ∃ v,(part t vs off).run P w = .ok v w∧AR N D loc w av v:=by
 unfold z2x at h
 cases h1:zS P t with
 | none=>rw [h1] at h;cases h
 | some r =>
  cases h2:tySz P t with
  | none=>rw [h1,h2] at h;cases r <;> cases h
  | some n =>
   rw [h1,h2] at h
   unfold zS at h1
   obtain ⟨d,hu,hd⟩:=Option.map_eq_some_iff.1 h1
   obtain ⟨i,hi,hin⟩:=Option.map_eq_some_iff.1 h2
   cases r with
   | true =>
    simp only at h
    split at h
    ·rename_i hl
     simp only [Option.some.injEq] at h
     subst h
     have hagg:(isAgg t).run P w = .ok true w:=by
      unfold isAgg
      rw [Sem.run_bind,run_underlying hu w]
      cases d <;> simp_all
     have hget : ∀ j,(vs.extract off (off+n)).getD j undef=if j<n then vs.getD (off+j) undef else undef:=fun j=>by
      rw [Array.getD_eq_getD_getElem?,Array.getElem?_extract,Array.getD_eq_getD_getElem?]
      by_cases hj:j<n
      ·rw [if_pos hj,if_pos (by rw [hc.1];omega)]
      ·rw [if_neg hj,if_neg (by omega)];rfl
     have hsz:(vs.extract off (off+n)).size=n:=by rw [Array.size_extract,hc.1];omega
     refine ⟨.agg (vs.extract off (off+n)),by simp only [part,Sem.run_bind,hagg,Result.andThen_ok,if_true,sizeOf,typeInfo,run_program,hi,hin,Sem.run_pure],.agg _ _ (by rw [hsz];simp;omega) (fun j x hx=>?_) (fun j hj=>?_)⟩
     ·obtain ⟨hlt,_⟩:=List.getElem?_eq_some_iff.1 hx
      simp only [List.length_take,List.length_drop] at hlt
      rw [List.getElem?_take,if_pos (by omega),List.getElem?_drop] at hx
      rw [hget,if_pos (by omega)]
      exact hc.2.1 _ x hx
     ·rw [hsz] at hj
      rw [hget,if_pos hj]
      exact hc.2.2 _ (by rw [hc.1];omega)
    ·cases h
   | false =>
    simp only at h
    have hlt:=(List.getElem?_eq_some_iff.1 h).1
    have h5:=hc.2.1 off av h
    rw [Array.getD_eq_getD_getElem?,Array.getElem?_eq_getElem (by rw [hc.1];exact hlt),Option.getD_some] at h5
    have hagg:(isAgg t).run P w = .ok false w:=by
     unfold isAgg
     rw [Sem.run_bind,run_underlying hu w]
     cases d <;> simp_all
    exact ⟨_,by simp only [part,Sem.run_bind,hagg,Result.andThen_ok,Bool.false_eq_true,if_false,Array.getElem?_eq_getElem (show off<vs.size by rw [hc.1];exact hlt),Sem.run_pure],h5⟩
def zN (P:Program) (t:TypeId) (f:Nat):Option (Nat × Nat):=match P.underlying t with
 | some (.struct fs)=>(fs[f]?).map fun fd=>(fd.type,fd.offset)
 | _=>none
def z8O (P:Program) (s:ASt) (t:TypeId) (f:Nat) (x:Operand):Option AV:=match s.ev x,zN P t f with
 | .agg cs,some (ty,off)=>z2x P ty cs off
 | _,_=>none
theorem op_fieldV (t:TypeId) (x:Operand) (f:Nat) (av:AV) (h:o.op = .field t x f) (hl:z8O P s t f x=some av):zX P ops o s av := .pure fun L loc a w hr=>by
 have hx:=hr.ev x (zD (by simp [h,Op.operands]))
 unfold z8O at hl
 split at hl
 ·rename_i cs ty off he hf
  rw [he] at hx
  generalize hv:a.eval x=v at hx
  cases hx with
  | agg _ vs h1 h2 h3 =>
  obtain ⟨u,hu,hav⟩:=z7n (P:=P) ⟨h1,h2,h3⟩ hl
  unfold zN at hf
  split at hf
  ·rename_i fs hun
   obtain ⟨fd,hfd,e⟩:=Option.map_eq_some_iff.1 hf
   cases e
   exact ⟨u,by simp only [execOp,h,hv,Instr.field,Sem.run_bind,run_underlying hun,Result.andThen_ok,hfd,asAgg,Sem.run_pure,hu],hav⟩
  ·cases hf
 ·cases hl
def elemA (P:Program) (t:TypeId):Option (Nat × Nat × Nat):=match P.underlying t with
 | some (.array n e)=>(tySz P e).map fun k=>(e,k,n)
 | _=>none
def z8I (P:Program) (s:ASt) (t:TypeId) (x i:Operand):Option AV:=match s.ev x,s.ev i,elemA P t with
 | .agg cs,.p (.val (.int _ n)),some (e,k,len)=>if 0≤n∧n<len then z2x P e cs (n.toNat*k) else none
 | _,_,_=>none
theorem op_indexV (t:TypeId) (x i:Operand) (av:AV) (h:o.op = .index t x i) (hl:z8I P s t x i=some av):zX P ops o s av := .pure fun L loc a w hr=>by
 have hx:=hr.ev x (zD (by simp [h,Op.operands]))
 have hi:=hr.ev i (zD (by simp [h,Op.operands]))
 unfold z8I at hl
 split at hl
 ·rename_i cs kd n e k len he hie hel
  rw [he] at hx
  rw [hie] at hi
  split at hl
  ·rename_i hcond
   generalize hv:a.eval x=v at hx
   cases hx with
   | agg _ vs h1 h2 h3 =>
   obtain ⟨u,hu,hav⟩:=z7n (P:=P) ⟨h1,h2,h3⟩ hl
   unfold elemA at hel
   split at hel
   ·rename_i len' e' hun
    obtain ⟨k',hk,e⟩:=Option.map_eq_some_iff.1 hel
    cases e
    obtain ⟨ti,hti,htk⟩:=Option.map_eq_some_iff.1 hk
    exact ⟨u,by simp only [execOp,h,hv,hi.val,Instr.index,asIntOf,Sem.run_bind,run_underlying hun,Result.andThen_ok,Sem.run_pure,if_pos hcond,sizeOf,typeInfo,run_program,hti,htk,hu],hav⟩
   ·cases hel
  ·cases hl
 ·cases hl
theorem z9w (t:TypeId) (x y:Operand) (k k' : IntKind) (e n bytes l:Nat) (zs:List Value) (h:o.op = .makeSlice t x y) (hx:s.ev x = .p (.val (.int k l))) (hy:s.ev y = .p (.val (.int k' l))) (ht:zW P t=some (e,n,bytes)) (hz:zK P e=some zs)
    (hl:l≤maxLen) (hb:bytes*l≤140737488355328) (hd : ∀ t,o.dst=some t→t<s.n):z1t P o s ((s.add (.row e n (List.replicate l (zs.map .val)))).put o.dst (.own s.N)):=fun L loc a w hr=>by
  have h1:=hr.ev x (fun _ _=>trivial)
  have h2:=hr.ev y (fun _ _=>trivial)
  rw [hx] at h1
  rw [hy] at h2
  obtain ⟨i,z,hu,hi,hiz,hsz,hby,hzs,hn0⟩:=(z0A ht).h
  obtain ⟨i',z',hi',hiz',hzc,hone⟩:=z0P hz
  rw [hi] at hi'
  cases hi'
  rw [hiz] at hiz'
  cases hiz'
  subst hsz
  have hml:maxLen=9223372036854775807:=rfl
  have hrun := run_make (P := P) w t e i z hu hi hiz k k' l l (by omega) (Int.le_refl _) (by rw [hby]; have : ((bytes * l : Nat) : Int) ≤ 281474976710656 := by omega
                                                                                             rwa [Int.natCast_mul] at this) (by omega)
  simp only [Int.toNat_natCast] at hrun
  have hb0:Blw w.heap.size w (w.alloc (.cells (madeCells z.cells (l*i.size)) e)):=(Blw.refl _ _).alloc (Nat.le_refl _) _
  have hu0 : ∀ b,zP (.slice (some ⟨w.heap.size,0,none⟩) l l)=some b→w.heap.size≤b:=fun b e=>by cases e;exact Nat.le_refl _
  have hzl:zs.length=i.size:=by rw [← hzc,← hzs];simp
  have hcell : ∀ j,j<l*i.size→(madeCells z.cells (l*i.size))[j]? = zs[j % i.size]?:=fun j hj=>by
    have hm:j % i.size<z.cells.size:=by rw [hzs];exact Nat.mod_lt _ hn0
    rw [madeCells,Array.getElem?_map,Array.getElem?_range,if_pos hj]
    simp only [Option.map_some]
    rw [hzs,getElem!_pos z.cells _ hm,← hzc,Array.getElem?_toList,Array.getElem?_eq_getElem hm]
  have ho:OR (s.N+1) (Dm L (zO loc s.N (.slice (some ⟨w.heap.size,0,none⟩) l l))) (zO loc s.N (.slice (some ⟨w.heap.size,0,none⟩) l l)) (w.alloc (.cells (madeCells z.cells (l*i.size)) e)) (.slice (some ⟨w.heap.size,0,none⟩) l l) (.row e i.size (List.replicate l (zs.map .val))):=by
    refine ⟨(madeCells z.cells (l*i.size)).toList,⟨by simp [size_madeCells],.inr ⟨w.heap.size,l,_,by simp,Nat.zero_le _,qD w _ _ rfl,by simp,hl,size_madeCells _ _,?_⟩⟩,fun r hr'=>?_,fun k r j x hk hx=>?_,fun v hv=>?_⟩
    · rw [List.length_replicate,List.take_of_length_le (by simp [size_madeCells])]
    · rw [(List.mem_replicate.1 hr').2,List.length_map,hzl]
    · rw [List.getElem?_replicate] at hk
      split at hk
      · rename_i hkl
        cases hk
        have hjl:=(List.getElem?_eq_some_iff.1 hx).1
        simp only [List.length_map,hzl] at hjl
        obtain ⟨v,hv,rfl⟩:=Option.map_eq_some_iff.1 (by simpa using hx:(zs[j]?).map PV.val=some x)
        have hlt:k*i.size+j<l*i.size:=by
          have:(k+1)*i.size≤l*i.size:=Nat.mul_le_mul_right _ hkl
          rw [Nat.add_mul] at this
          omega
        refine ⟨v,?_,.val v (hone v (List.mem_of_getElem? hv))⟩
        rw [Array.getElem?_toList,hcell _ hlt,Nat.mul_comm,Nat.mul_add_mod,Nat.mod_eq_of_lt hjl,hv]
      · cases hk
    · obtain ⟨j,hj,rfl⟩:=List.mem_iff_getElem.1 hv
      simp only [Array.length_toList,size_madeCells] at hj
      have:=hcell j hj
      rw [← Array.getElem?_toList,List.getElem?_eq_getElem (by simpa [size_madeCells] using hj)] at this
      exact hone _ (List.mem_of_getElem? this.symm)
  unfold Oper.wp
  have he:(execOp a.eval o).run P w = .ok (.value (.slice (some ⟨w.heap.size,0,none⟩) l l)) (w.alloc (.cells (madeCells z.cells (l*i.size)) e)):=by
    simp only [execOp,h,h1.val,h2.val,Sem.run_bind,hrun,Result.andThen_ok,Sem.run_pure]
  rw [he]
  refine ⟨zO loc s.N (.slice (some ⟨w.heap.size,0,none⟩) l l),?_,.add hb0 _ _ hu0⟩
  refine (hr.add hb0 _ _ hu0 ho).put' hd (.own s.N _ (Nat.lt_succ_self _) rfl fun u hu=>?_)
  rw [zG] at hu;cases hu;rfl
theorem z2u {α:Type} {cs:List α} {off m:Nat} {xs:List α} (h:off+xs.length≤m) (hm:m≤cs.length):(qf cs off xs).take m=qf (cs.take m) off xs:=by
 apply List.ext_getElem?
 intro j
 rw [List.getElem?_take,qb (by omega),qb (by rw [List.length_take];omega),List.getElem?_take]
 by_cases h1:j<m
 ·rw [if_pos h1,if_pos h1]
 ·rw [if_neg h1,if_neg h1,if_neg (by omega)]
theorem op_storeR (t:TypeId) (x y:Operand) (tag n k off:Nat) (e:Nat) (rows:List (List PV)) (r:List PV) (ys:List AV) (ps:List PV) (h:o.op = .store t x y) (hx:s.ev x = .rptr tag n k off) (hlk:s.hp.lookup tag=some (.row e n rows)) (hr:rows[k]? = some r)
  (hy:z0q (s.ev y)=some ys) (hp:z7h ys=some ps) (hsz:tySz P t=some ys.length) (hl:off+ys.length≤n) (hd:o.dst=none):z1t P o s { s with hp:=zF s.hp tag (.row e n (rows.set k (qf r off ps))) }:=fun L loc a w hrel=>by
 have h1:=hrel.ev x (fun _ _=>trivial)
 have h2:=hrel.ev y (fun _ _=>trivial)
 rw [hx] at h1
 obtain ⟨_,u,hu,hor⟩:=hrel.hp.at' tag _ hlk
 obtain ⟨flat,hown,hrn,hfl,hone⟩:=hor
 obtain ⟨k1,k2,k3⟩:=z2B h2 hy
 have hkl:=(List.getElem?_eq_some_iff.1 hr).1
 have hrl:r.length=n:=hrn r (List.mem_of_getElem? hr)
 have hys:=z2S hp
 have hpl:ps.length=ys.length:=by rw [hys];simp
 generalize hax:a.eval x=ax at h1
 cases h1 with
 | rptr _ _ _ _ _ _ _ hv =>
 have hown':=hown
 rcases hown.2 with ⟨_,h0⟩|⟨g,cap,cur,rfl,_,hg,hle,hmx,hcs,htk⟩
 ·omega
 obtain rfl:=hv g _ _ hu
 have hfl0:flat.length=rows.length*n:=hown.1
 have hkn:k*n+n≤rows.length*n:=by
  have:(k+1)*n≤rows.length*n:=Nat.mul_le_mul_right n hkl
  rwa [Nat.add_mul,Nat.one_mul] at this
 have hcn:rows.length*n≤cap*n:=Nat.mul_le_mul_right n hle
 have hrun:=z2F (P:=P) (off:=k*n+off) (v:=a.eval y) hg (by rw [k1];exact hsz) (by rw [k1,hcs];omega) k3
 obtain ⟨arr',g1,g2,g3⟩:=z14 (a.eval y).cells.toList (k*n+off) w cur e (0,0) hg (by simp [k1,hcs];omega)
 have hk:Kp (fun k=>k=g) w (w.setCells g (k*n+off) (a.eval y).cells.toList):=z07 (D:=fun k=>k=g) rfl _ _ _
 have hDb:Dm L loc g := .inr ⟨tag,_,hu,rfl⟩
 have hkd:Kp (Dm L loc) w (w.setCells g (k*n+off) (a.eval y).cells.toList):=z07 hDb _ _ _
 unfold Oper.wp
 have he:(execOp a.eval o).run P w = .ok .skip (w.setCells g (k*n+off) (a.eval y).cells.toList):=by simp [execOp,h,hax,hrun]
 rw [he]
 simp only [Oper.upon,hd]
 refine ⟨loc,?_,.turn hu rfl hk⟩
 have hsl:(a.eval y).cells.toList.length=ys.length:=by simp [k1]
 refine hrel.turn hlk hu rfl hk ⟨qf flat (k*n+off) (a.eval y).cells.toList,⟨?_,.inr ⟨g,cap,arr',?_,Nat.zero_le _,g1,?_,hmx,by rw [g3,hcs],?_⟩⟩,fun r' hr'=>?_,fun k' r' j z hk' hz=>?_,fun v hv=>?_⟩
 ·rw [qQ (by rw [hsl,hfl0];omega),hfl0,List.length_set]
 ·rw [List.length_set]
 ·rw [List.length_set];exact hle
 ·rw [List.length_set,g2,z2u (by rw [hsl];omega) (by simp [hcs];omega),htk]
 ·rcases List.mem_or_eq_of_mem_set hr' with h5|h5
  ·exact hrn r' h5
  ·rw [h5,qQ (by omega),hrl]
 ·rw [qb (by rw [hsl,hfl0];omega),hsl]
  rw [List.getElem?_set] at hk'
  by_cases e1:k=k'
  ·subst e1
   rw [if_pos rfl,if_pos hkl] at hk'
   cases hk'
   rw [qb (by omega)] at hz
   by_cases hc:off≤j∧j<off+ps.length
   ·rw [if_pos hc] at hz
    rw [if_pos (by omega)]
    have hz' : ys[j-off]? = some (.p z):=by rw [hys,List.getElem?_map,hz];rfl
    have h5:=k2 _ _ hz'
    have hlt:j-off<(a.eval y).cells.size:=by rw [k1];exact (List.getElem?_eq_some_iff.1 hz').1
    rw [Array.getD_eq_getD_getElem?,Array.getElem?_eq_getElem hlt,Option.getD_some] at h5
    refine ⟨(a.eval y).cells[j-off],?_,?_⟩
    ·rw [show k*n+j-(k*n+off)=j-off by omega,Array.getElem?_toList];exact Array.getElem?_eq_getElem hlt
    ·cases h5 with|p _ _ hp=>exact hp.mono hkd (fun _ _ h=>h)
   ·rw [if_neg hc] at hz
    rw [if_neg (by omega)]
    obtain ⟨v,h5,h6⟩:=hfl k r j z hr hz
    exact ⟨v,h5,h6.mono hkd (fun _ _ h=>h)⟩
  ·rw [if_neg e1] at hk'
   obtain ⟨v,h5,h6⟩:=hfl k' r' j z hk' hz
   have hjl:=(List.getElem?_eq_some_iff.1 hz).1
   rw [hrn r' (List.mem_of_getElem? hk')] at hjl
   have hne : ¬ (k*n+off≤k' * n+j∧k' * n+j<k*n+off+ys.length):=by
    rcases Nat.lt_or_gt_of_ne e1 with h7|h7
    ·have:(k+1)*n≤k' * n:=Nat.mul_le_mul_right n h7
     rw [Nat.add_mul] at this
     omega
    ·have:(k' + 1)*n≤k*n:=Nat.mul_le_mul_right n h7
     rw [Nat.add_mul] at this
     omega
   rw [if_neg hne]
   exact ⟨v,h5,h6.mono hkd (fun _ _ h=>h)⟩
 ·unfold qf at hv
  rcases List.mem_append.1 hv with h5|h5
  ·rcases List.mem_append.1 h5 with h6|h6
   ·exact hone v (List.mem_of_mem_take h6)
   ·obtain ⟨j,hj,rfl⟩:=List.mem_iff_getElem.1 h6
    have:=k3 j (by simpa using hj)
    rw [Array.getD_eq_getD_getElem?,Array.getElem?_eq_getElem (by simpa using hj),Option.getD_some] at this
    simpa using this
  ·exact hone v (List.mem_of_mem_drop h5)
theorem op_storeA (t:TypeId) (x y:Operand) (tag k:Nat) (e:Nat) (cs:List AV) (y1:AV) (h:o.op = .store t x y) (hx:s.ev x = .rptr tag 1 k 0) (hlk:s.hp.lookup tag=some (.arow e cs)) (hkl:k<cs.length)
  (hy:z0q (s.ev y)=some [y1]) (hsz:tySz P t=some 1) (hd:o.dst=none):z1t P o s { s with hp:=zF s.hp tag (.arow e (cs.set k y1)) }:=fun L loc a w hrel=>by
 have h1:=hrel.ev x (fun _ _=>trivial)
 have h2:=hrel.ev y (fun _ _=>trivial)
 rw [hx] at h1
 obtain ⟨_,u,hu,hor⟩:=hrel.hp.at' tag _ hlk
 obtain ⟨flat,hown,hfl,hone⟩:=hor
 obtain ⟨k1,k2,k3⟩:=z2B h2 hy
 simp only [List.length_cons,List.length_nil,Nat.zero_add] at k1
 generalize hax:a.eval x=ax at h1
 cases h1 with
 | rptr _ _ _ _ _ _ _ hv =>
 have hown':=hown
 rcases hown.2 with ⟨_,h0⟩|⟨g,cap,cur,rfl,_,hg,hle,hmx,hcs,htk⟩
 ·omega
 obtain rfl:=hv g _ _ hu
 have hfl0:flat.length=cs.length:=by have:=hown.1;omega
 have hcn:cs.length≤cap:=hle
 have hrun:=z2F (P:=P) (off:=k*1+0) (v:=a.eval y) hg (by rw [k1];exact hsz) (by rw [k1,hcs];omega) k3
 obtain ⟨arr',g1,g2,g3⟩:=z14 (a.eval y).cells.toList (k*1+0) w cur e (0,0) hg (by simp [k1,hcs];omega)
 have hk:Kp (fun k=>k=g) w (w.setCells g (k*1+0) (a.eval y).cells.toList):=z07 (D:=fun k=>k=g) rfl _ _ _
 have hDb:Dm L loc g := .inr ⟨tag,_,hu,rfl⟩
 have hkd:Kp (Dm L loc) w (w.setCells g (k*1+0) (a.eval y).cells.toList):=z07 hDb _ _ _
 unfold Oper.wp
 have he:(execOp a.eval o).run P w = .ok .skip (w.setCells g (k*1+0) (a.eval y).cells.toList):=by simp [execOp,h,hax] at hrun ⊢;simp [hrun]
 rw [he]
 simp only [Oper.upon,hd]
 refine ⟨loc,?_,.turn hu rfl hk⟩
 have hsl:(a.eval y).cells.toList.length=1:=by simp [k1]
 refine hrel.turn hlk hu rfl hk ⟨qf flat (k*1+0) (a.eval y).cells.toList,⟨?_,.inr ⟨g,cap,arr',?_,Nat.zero_le _,g1,?_,hmx,by rw [g3,hcs],?_⟩⟩,fun j z hz=>?_,fun v hv=>?_⟩
 ·rw [qQ (by rw [hsl,hfl0];omega),hfl0,List.length_set,Nat.mul_one]
 ·rw [List.length_set]
 ·rw [List.length_set];exact hle
 ·rw [List.length_set,g2,z2u (by rw [hsl];omega) (by simp [hcs];omega),htk]
 ·rw [qb (by rw [hsl,hfl0];omega),hsl]
  rw [List.getElem?_set] at hz
  by_cases e1:k=j
  ·subst e1
   rw [if_pos rfl,if_pos hkl] at hz
   cases hz
   rw [if_pos (by omega)]
   have h5:=k2 0 _ rfl
   have hlt : 0<(a.eval y).cells.size:=by omega
   rw [Array.getD_eq_getD_getElem?,Array.getElem?_eq_getElem hlt,Option.getD_some] at h5
   refine ⟨(a.eval y).cells[0],?_,?_⟩
   ·rw [show k-(k*1+0)=0 by omega,Array.getElem?_toList];exact Array.getElem?_eq_getElem hlt
   ·exact h5.mono (Nat.le_refl _) hkd (fun _ _ h=>h) (fun _ _ _ h=>h)
  ·rw [if_neg e1] at hz
   rw [if_neg (by omega)]
   obtain ⟨v,h5,h6⟩:=hfl j z hz
   exact ⟨v,h5,h6.mono (Nat.le_refl _) hkd (fun _ _ h=>h) (fun _ _ _ h=>h)⟩
 ·unfold qf at hv
  rcases List.mem_append.1 hv with h5|h5
  ·rcases List.mem_append.1 h5 with h6|h6
   ·exact hone v (List.mem_of_mem_take h6)
   ·obtain ⟨j,hj,rfl⟩:=List.mem_iff_getElem.1 h6
    have:=k3 j (by simpa using hj)
    rw [Array.getD_eq_getD_getElem?,Array.getElem?_eq_getElem (by simpa using hj),Option.getD_some] at this
    simpa using this
  ·exact hone v (List.mem_of_mem_drop h5)
theorem op_clear (x:Operand) (t tag m:Nat) (e n bytes:Nat) (zs:List Value) (rows:List (List PV)) (h:o.op = .call { callee := .builtin .clear,args := #[x],argTypes := #[t] }) (hx:s.ev x = .suf tag n m) (hlk:s.hp.lookup tag=some (.row e n rows)) (ht:zW P t=some (e,n,bytes)) (hz:zK P e=some zs)
  (hm:m<rows.length) (hd : ∀ t,o.dst=some t→t<s.n):z1t P o s (ASt.put { s with hp:=zF s.hp tag (.row e n (rows.take m++List.replicate (rows.length-m) (zs.map .val))) } o.dst (.tup [])):=fun L loc a w hrel=>by
 have h1:=hrel.ev x (fun _ _=>trivial)
 rw [hx] at h1
 obtain ⟨_,u,hu,hor⟩:=hrel.hp.at' tag _ hlk
 obtain ⟨flat,hown,hrn,hfl,hone⟩:=hor
 obtain ⟨i,z,hut,hi,hiz,hsz,hby,hzs,hn0⟩:=(z0A ht).h
 obtain ⟨i',z',hi',hiz',hzc,hzone⟩:=z0P hz
 rw [hi] at hi'
 cases hi'
 rw [hiz] at hiz'
 cases hiz'
 have hzl:zs.length=n:=by rw [← hzc,← hzs];simp
 generalize hax:a.eval x=ax at h1
 cases h1 with
 | suf _ _ _ _ _ _ hv =>
 rcases hown.2 with ⟨_,h0⟩|⟨g,cap,cur,rfl,_,hg,hle,hmx,hcs,htk⟩
 ·omega
 obtain ⟨oo,rfl,hoo⟩:=hv g _ _ hu
 obtain rfl:=hoo (by omega)
 have hfl0:flat.length=rows.length*n:=hown.1
 obtain ⟨q,hq⟩ : ∃ q,rows.length=m+(q+1):=⟨rows.length-m-1,by omega⟩
 have hzero : ∀ w:World,(zeroValue e).run P w = .ok z w:=fun w=>by simp [zeroValue,typeInfo,hi,hiz]
 have hcn:rows.length*n≤cap*n:=Nat.mul_le_mul_right n hle
 have hqn:rows.length*n=m*n+(q+1)*n:=by rw [hq,Nat.add_mul]
 have hzcell : ∀ j,j<(q+1)*n→(Builtin.zeroCells z.cells (q+1))[j]? = zs[j % n]?:=fun j hj=>by
  have hmd:j % n<z.cells.size:=by rw [hzs];exact Nat.mod_lt _ hn0
  rw [Builtin.zeroCells,Array.getElem?_map,Array.getElem?_range,hzs,if_pos hj]
  simp only [Option.map_some]
  rw [getElem!_pos z.cells _ hmd,← hzc,Array.getElem?_toList,Array.getElem?_eq_getElem hmd]
 have hzsz:(Builtin.zeroCells z.cells (q+1)).size=(q+1)*n:=by simp [Builtin.zeroCells,hzs]
 have hz1 : ∀ v ∈ (Builtin.zeroCells z.cells (q+1)).toList,v.oneCell' = true:=fun v hv=>by
  obtain ⟨j,hj,rfl⟩:=List.mem_iff_getElem.1 hv
  simp only [Array.length_toList,hzsz] at hj
  have:=hzcell j hj
  rw [← Array.getElem?_toList,List.getElem?_eq_getElem (by simpa [hzsz] using hj)] at this
  exact hzone _ (List.mem_of_getElem? this.symm)
 have hst:=run_storeCells_cells (P:=P) g (m*n) (Builtin.zeroCells z.cells (q+1)).toList 0 w (fun j hj=>by
   simp only [Array.length_toList,hzsz] at hj
   rw [Nat.add_zero,z15 hg,Array.getElem?_eq_getElem (by omega)];rfl) (fun j _=>by simp [World.frozen?,hg]) hz1
 simp only [Nat.add_zero] at hst
 have hlq:rows.length-m=q+1:=by omega
 obtain ⟨arr',g1,g2,g3⟩:=z14 (Builtin.zeroCells z.cells (q+1)).toList (m*n) w cur e (0,0) hg (by simp [hzsz,hcs];omega)
 have hk:Kp (fun k=>k=g) w (w.setCells g (m*n) (Builtin.zeroCells z.cells (q+1)).toList):=z07 (D:=fun k=>k=g) rfl _ _ _
 have hDb:Dm L loc g := .inr ⟨tag,_,hu,rfl⟩
 have hkd:Kp (Dm L loc) w (w.setCells g (m*n) (Builtin.zeroCells z.cells (q+1)).toList):=z07 hDb _ _ _
 have hrun:(Builtin.clear_ #[t] o.type #[.slice (some ⟨g,m*n,none⟩) (rows.length-m) (cap-m)]).run P w = .ok (.tuple #[]) (w.setCells g (m*n) (Builtin.zeroCells z.cells (q+1)).toList):=by
  rw [hlq]
  simp [Builtin.clear_,run_underlying hut,hzero,hst]
 unfold Oper.wp
 have he:(execOp a.eval o).run P w = .ok (.value (.tuple #[])) (w.setCells g (m*n) (Builtin.zeroCells z.cells (q+1)).toList):=by
  simp only [execOp,h,resolve,invoke,builtin,Sem.run_bind,Sem.run_pure,Result.andThen_ok,List.map_toArray,List.map_cons,List.map_nil,hax,hrun]
 rw [he]
 have hlt:(rows.take m++List.replicate (rows.length-m) (zs.map PV.val)).length=rows.length:=by simp;omega
 have hzlen:(Builtin.zeroCells z.cells (q+1)).toList.length=(q+1)*n:=by simp [hzsz]
 refine ⟨loc,Rel.put' (s := { s with hp:=zF s.hp tag (.row e n (rows.take m++List.replicate (rows.length-m) (zs.map .val))) }) (hrel.turn hlk hu rfl hk ⟨qf flat (m*n) (Builtin.zeroCells z.cells (q+1)).toList,⟨?_,.inr ⟨g,cap,arr',?_,Nat.zero_le _,g1,?_,hmx,by rw [g3,hcs],?_⟩⟩,fun r' hr'=>?_,fun k' r' j zz hk' hzz=>?_,fun v hv=>?_⟩) hd (.tup [] #[] rfl (fun j x hx=>by simp at hx)),.turn hu rfl hk⟩
 ·rw [qQ (by rw [hzlen,hfl0];omega),hfl0,hlt]
 ·rw [hlt]
 ·rw [hlt];exact hle
 ·rw [hlt,g2,z2u (by rw [hzlen];omega) (by simp [hcs];omega),htk]
 ·rcases List.mem_append.1 hr' with h5|h5
  ·exact hrn r' (List.mem_of_mem_take h5)
  ·rw [(List.mem_replicate.1 h5).2,List.length_map,hzl]
 ·rw [qb (by rw [hzlen,hfl0];omega),hzlen]
  have hmt:(rows.take m).length=m:=by rw [List.length_take];omega
  by_cases hkm:k' < m
  ·rw [List.getElem?_append_left (by omega),List.getElem?_take,if_pos hkm] at hk'
   obtain ⟨v,h5,h6⟩:=hfl k' r' j zz hk' hzz
   have hjl:=(List.getElem?_eq_some_iff.1 hzz).1
   rw [hrn r' (List.mem_of_getElem? hk')] at hjl
   have:(k' + 1)*n≤m*n:=Nat.mul_le_mul_right n hkm
   rw [Nat.add_mul] at this
   rw [if_neg (by omega)]
   exact ⟨v,h5,h6.mono hkd (fun _ _ h=>h)⟩
  ·rw [List.getElem?_append_right (by omega),List.getElem?_replicate] at hk'
   split at hk'
   ·rename_i hkl
    cases hk'
    have hjl:=(List.getElem?_eq_some_iff.1 hzz).1
    simp only [List.length_map,hzl] at hjl
    obtain ⟨v,hv,rfl⟩:=Option.map_eq_some_iff.1 (by simpa using hzz:(zs[j]?).map PV.val=some zz)
    have hkk:k' * n=m*n+(k' - m)*n:=by rw [← Nat.add_mul];congr 1;omega
    have hlt2:(k' - m)*n+j<(q+1)*n:=by
     have:((k' - m)+1)*n≤(q+1)*n:=Nat.mul_le_mul_right _ (by omega)
     rw [Nat.add_mul] at this
     omega
    refine ⟨v,?_,.val v (hzone v (List.mem_of_getElem? hv))⟩
    rw [if_pos (by omega),show k' * n+j-m*n=(k' - m)*n+j by omega,Array.getElem?_toList,hzcell _ hlt2,Nat.mul_comm,Nat.mul_add_mod,Nat.mod_eq_of_lt hjl,hv]
   ·cases hk'
 ·unfold qf at hv
  rcases List.mem_append.1 hv with h5|h5
  ·rcases List.mem_append.1 h5 with h6|h6
   ·exact hone v (List.mem_of_mem_take h6)
   ·exact hz1 v h6
  ·exact hone v (List.mem_of_mem_drop h5)
theorem z9W (x y:Operand) (ty:Nat) (e n bytes:Nat) (ys:List (List PV)) (h:o.op = .call { callee := .builtin .append,args := #[x,y],argTypes := #[ty,ty] }) (hx:s.ev x = .p (.val (.slice none 0 0))) (ht:zW P ty=some (e,n,bytes)) (hy:s.ev y = .p (.seq n ys))
  (h63:ys.length≤maxLen) (hbytes:ys.length*bytes≤140737488355328) (hd : ∀ t,o.dst=some t→t<s.n):z1t P o s ((s.add (.row e n ys)).put o.dst (.own s.N)):=fun L loc a w hr=>by
 have h1:=hr.ev x (fun _ _=>trivial)
 have h2:=hr.ev y (fun _ _=>trivial)
 rw [hx] at h1
 rw [hy] at h2
 have hax:=h1.val
 generalize hay:a.eval y=ay at h2
 cases h2 with
 | p _ _ hp =>
 obtain ⟨v',w',news,hrun,hown',hg,hat,hone2,hyn,hpr⟩:=z0Y (P:=P) (ty:=o.type) (z0A ht) (World.ownsRow_nil w 0 e n) hp (by simpa using h63) (by simpa using hbytes)
 simp only [Nat.zero_add,List.nil_append] at hown'
 have hb:Blw w.heap.size w w':=⟨⟨hg.os,hg.tape,hg.output,hg.size,fun k hk=>hg.block k hk (by simp [Value.ownBlock])⟩⟩
 have hv1:v'.oneCell' = true:=by rcases hown'.2 with ⟨rfl,_⟩|⟨g,c,cur,rfl,_⟩ <;> rfl
 have hu : ∀ b,zP v' = some b→w.heap.size≤b:=fun b hb'=>by
  have hb2:=z6t hown' hb'
  rcases hat with e'|e'
  ·rw [e'] at hb2;simp [Value.ownBlock] at hb2
  ·rw [e'] at hb2;cases hb2;exact Nat.le_refl _
 unfold Oper.wp
 have he:(execOp a.eval o).run P w = .ok (.value v') w':=by simp only [execOp,h,resolve,invoke,builtin,Sem.run_bind,Sem.run_pure,Result.andThen_ok,List.map_toArray,List.map_cons,List.map_nil,hax,hay,hrun]
 rw [he]
 refine ⟨zO loc s.N v',?_,.add hb _ _ hu⟩
 refine (hr.add hb v' (.row e n ys) hu ⟨news,hown',hyn,fun k r j x hk hx=>?_,hone2⟩).put' hd (.own s.N _ (Nat.lt_succ_self _) hv1 fun z hz=>?_)
 ·obtain ⟨v,h5,h6⟩:=hpr k r j x hk hx
  exact ⟨v,h5,h6.mono (.of_below hb) (fun k hk hd=>(z1S hd).resolve_left fun e=>by have:=hu k e;omega)⟩
 ·rw [zG] at hz;cases hz;rfl
theorem z5S (t:TypeId) (e n bytes:Nat) (h:o.op = .buildSlice t 0 #[]) (ht:zW P t=some (e,n,bytes)) (hd : ∀ t,o.dst=some t→t<s.n):z1t P o s ((s.add (.row e n [])).put o.dst (.own s.N)):=fun L loc a w hr=>by
 obtain ⟨i,z,hu,hi,hiz,hsz,hby,hzs,hn0⟩:=(z0A ht).h
 have hnr : ∀ c:Array Value,(newRow e c).run P w = .ok ⟨w.heap.size,0,none⟩ (w.alloc (.cells c e)):=fun c=>by simp [newRow]
 have hrun:(Instr.buildSlice t 0 #[]).run P w = .ok (.slice (some ⟨w.heap.size,0,none⟩) 0 0) (w.alloc (.cells #[] e)):=by
  unfold Instr.buildSlice
  have h1:Instr.fill (fun i=>some (i*n,n)) ((Array.range (0*n)).map fun j=>(#[] : Array Value)[j % (#[] : Array Value).size]!) (#[] : Array (Nat × Value)).toList=some #[]:=by
   simp [Instr.fill]
  have hm : ¬ (0*n > 2 ^ 24):=by omega
  simp only [Sem.run_bind,run_underlying hu,Result.andThen_ok,sizeOf,typeInfo,run_program,hi,hsz,Sem.run_pure,if_neg hm,if_pos (Nat.zero_mul n),h1,hnr]
 have hb:Blw w.heap.size w (w.alloc (.cells #[] e)):=(Blw.refl _ _).alloc (Nat.le_refl _) _
 have hu0 : ∀ b,zP (.slice (some ⟨w.heap.size,0,none⟩) 0 0)=some b→w.heap.size≤b:=fun b e=>by cases e;exact Nat.le_refl _
 unfold Oper.wp
 have he:(execOp a.eval o).run P w = .ok (.value (.slice (some ⟨w.heap.size,0,none⟩) 0 0)) (w.alloc (.cells #[] e)):=by simp only [execOp,h,List.map_toArray,List.map_nil,Sem.run_bind,hrun,Result.andThen_ok,Sem.run_pure]
 rw [he]
 refine ⟨zO loc s.N (.slice (some ⟨w.heap.size,0,none⟩) 0 0),?_,.add hb _ _ hu0⟩
 refine (hr.add hb _ (.row e n []) hu0 ⟨[],⟨by simp,.inr ⟨w.heap.size,0,#[],rfl,Nat.zero_le _,qD w _ _ rfl,Nat.le_refl _,by simp [maxLen],by simp,by simp⟩⟩,fun r h=>(by cases h),fun k r j x h=>(by simp at h),fun v h=>(by cases h)⟩).put' hd (.own s.N _ (Nat.lt_succ_self _) rfl fun z hz=>?_)
 rw [zG] at hz;cases hz;rfl
end
end Go.Proofs.YtdlgoofjechocaaGreatDoor
