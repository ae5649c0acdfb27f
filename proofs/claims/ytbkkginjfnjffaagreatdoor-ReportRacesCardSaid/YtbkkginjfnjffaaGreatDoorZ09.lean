/- Texts Qd, Mh, Mj, Mk. -/
import Derived.Deep.Draws
import Derived.RangeFuncNested
import Derived.RangeFuncBound
import Derived.RangeFuncLeaves
import Derived.Shelf.Abstract
import Derived.OwnWalkIn
import Derived.TacticsInMore
import Derived.LoopNIn
import Derived.LoopIn
import Derived.Ground.SlsfProg
import Derived.Test.YtbkkginjfnjffaaGreatDoorZ08
set_option maxHeartbeats 32000000
set_option maxRecDepth 100000
set_option linter.unusedSimpArgs false
set_option linter.unusedVariables false
namespace Go.Proofs.YtbkkginjfnjffaaGreatDoor.Dm
open Go.RowKit Go.Sort
def gm (w:World) (p:Regrown):World:=grow (w.drewN p.d) p.os
def z4j (v:Value) (w:World) (e:Ending) (w' : World):Prop:=e = .returned v ∧ ∃ p:Regrown,w' = gm w p
theorem gm_gw (w:World) (p:Regrown):gm w p=gw w ⟨w.drawn+p.d,p.os⟩:=by simp [gm,gw,grow,redrawn,World.drewN]
theorem z0X (w:World):w=gm w ⟨0,#[]⟩:=by simp [gm,grow,World.drewN]
theorem gm_two (w:World) (p q:Regrown) : ∃ r:Regrown,gm (gm w p) q=gm w r:=⟨⟨p.d+q.d,p.os++q.os⟩,by simp [gm,grow,World.drewN,Nat.add_assoc,Array.append_assoc]⟩
theorem gm_alloc (w:World) (p:Regrown) (ob:Obj):(gm w p).alloc ob=gm w ⟨p.d,p.os.push ob⟩:=by simp [gm,grow,World.drewN,World.alloc]
theorem gm_heap (w:World) (p:Regrown) (b:Nat) (h:b<w.heap.size):(gm w p).heap[b]? = w.heap[b]?:=by rw [gm_gw];exact z7f w _ b h
@[go_sem,simp] theorem gm_size (w:World) (p:Regrown):(gm w p).heap.size=w.heap.size+p.os.size:=by rw [gm_gw,gw_size]
@[go_sem] theorem gm_cell (w:World) (p:Regrown) (b o:Nat) (h:Old b w):(gm w p).cell? ⟨b,o,none⟩=w.cell? ⟨b,o,none⟩:=by rw [gm_gw];exact gw_cell w _ b o h
@[go_sem] theorem gm_frozen (w:World) (p:Regrown) (b o:Nat) (h:Old b w):(gm w p).frozen? ⟨b,o,none⟩=w.frozen? ⟨b,o,none⟩:=by rw [gm_gw];exact gw_frozen w _ b o h
@[go_sem] theorem old_gm (w:World) (p:Regrown) (b:Nat):Old b (gm w p)=(Old b w∨OldIn b w p):=by rw [gm_gw,old_gw];simp [OldIn]
def z4w (P:Program) (w:World) (v:Value):Result Next→Prop
 | .ok (.value u) w'=>w' = w∧u=v
 | .ok .skip w'=>w' = w∧v=undef
 | .ok (.enter f args) w'=>w' = w∧Calls P f args w (z4j v w)
 | _=>False
def gqAt (P:Program) (o:Oper) (a:Act) (w:World) (v:Value):Prop:=z4w P w v ((execOp a.eval o).run P w)
def z4x (P:Program) (o:Oper) (a:Act) (W:World) (next:Act→Prop):Prop := ∃ v,(∀ p:Regrown,gqAt P o a (gm W p) v)∧next (a.put o.dst v)
def wpG (P:Program) (ops:Array Oper) (W:World) (R:Act→Prop):List Oper→Act→Prop
 | [],a=>R a
 | o :: rest,a=>if Region.wanted o (yielded ops a.tmps) then z4x P o a W (wpG P ops W R rest) else wpG P ops W R rest (a.put o.dst undef)
attribute [go_sem] z4x gqAt z4w
theorem z7z {P:Program} {ops:Array Oper} {W:World} {R:Act→Prop} {a:Act} (h:R a):wpG P ops W R [] a:=h
theorem z6c {P:Program} {ops:Array Oper} {W:World} {R:Act→Prop} {a:Act} {o:Oper} {rest:List Oper}
  (h : ∀ K:Act→Prop,(∀ a,wpG P ops W R rest a→K a)→if Region.wanted o (yielded ops a.tmps) then z4x P o a W K else K (a.put o.dst undef)):wpG P ops W R (o :: rest) a:=h _ (fun _ h=>h)
def makes (P:Program) (o:Oper) (a:Act) (w:World) (f:Nat→Value) (ob:Obj):Prop:=(execOp a.eval o).run P w = .ok (.value (f w.heap.size)) (w.alloc ob)
def z1z (P:Program) (ops:Array Oper) (W:World) (A:Act):List Oper→List ((Nat→Value) × Obj)→Prop
 | [],[]=>True
 | o :: r,(f,ob) :: s=>Region.wanted o (yielded ops A.tmps)=true∧(∀ p:Regrown,makes P o A (gm W p) f ob)∧z1z P ops W A r s
 | _,_=>False
def z1l:List Oper→List ((Nat→Value) × Obj)→List Nat→Act→Act
 | o :: r,(f,_) :: s,b :: bs,acc=>z1l r s bs (acc.put o.dst (f b))
 | _,_,_,acc=>acc
def z3i:List ((Nat→Value) × Obj)→List Nat→World→Prop
 | (_,ob) :: s,b :: bs,w=>w.heap[b]? = some ob∧z3i s bs w
 | _,_,_=>True
def slot (a:Act) (t:Tmp):Value:=a.tmps.getD t undef
theorem qi (a:Act) (d t:Tmp) (v:Value) (hd:d<a.tmps.size):slot (a.put (some d) v) t=if t=d then v else slot a t:=by
 unfold slot Act.put
 by_cases h:t=d
 ·subst h;simp [hd]
 ·simp [h,Array.getElem?_setIfInBounds_ne (fun e:d=t=>h e.symm)]
theorem size_put (a:Act) (d:Option Tmp) (v:Value):(a.put d v).tmps.size=a.tmps.size:=by cases d <;> simp [Act.put]
theorem z1o (a:Act) (d:Option Tmp) (v:Value):(a.put d v).defers=a.defers:=by cases d <;> rfl
theorem z5o {a b:Act} (h1:a.tmps.size=b.tmps.size) (h2:a.defers=b.defers) (h3 : ∀ t,slot a t=slot b t):a=b:=by
 obtain ⟨ta,da⟩:=a
 obtain ⟨tb,db⟩:=b
 simp only at h1 h2
 subst h2
 congr 1
 apply Array.ext h1
 intro i hi hj
 have:=h3 i
 simpa [slot,hi,hj] using this
theorem z0p {ops:Array Oper} {o:Oper} {a b:Act} (h : ∀ x ∈ o.looksAt ops,slot a x=slot b x) : ∀ x ∈ o.op.operands,a.eval x=b.eval x:=by
 intro x hx
 cases x with
 | tmp t=>exact h t (List.mem_append_left _ (List.mem_filterMap.2 ⟨.tmp t,by simpa using hx,rfl⟩))
 | _=>rfl
theorem z06 {ops:Array Oper} {o:Oper} {a b:Act} (hs:a.tmps.size=b.tmps.size) (h : ∀ x ∈ o.looksAt ops,slot a x=slot b x):Region.wanted o (yielded ops a.tmps)=Region.wanted o (yielded ops b.tmps):=by
 unfold Region.wanted
 cases hg:o.guard with
 | none=>rfl
 | some gm =>
  obtain ⟨g,want⟩:=gm
  have hy:yielded ops a.tmps g=yielded ops b.tmps g:=by
   unfold yielded
   cases ht:(ops[g]?).bind (·.dst) with
   | none=>rfl
   | some t =>
    have hx:=h t (List.mem_append_right _ (by simp [hg,ht]))
    have:a.tmps[t]? = b.tmps[t]?:=by
     by_cases hlt:t<a.tmps.size
     ·have hlt' : t<b.tmps.size:=hs ▸ hlt
      simp only [slot,Array.getD_eq_getD_getElem?,Array.getElem?_eq_getElem hlt,Array.getElem?_eq_getElem hlt',Option.getD_some] at hx
      rw [Array.getElem?_eq_getElem hlt,Array.getElem?_eq_getElem hlt',hx]
     ·rw [Array.getElem?_eq_none (Nat.le_of_not_lt hlt),Array.getElem?_eq_none (hs ▸ Nat.le_of_not_lt hlt)]
    simp [this]
  simp [hy]
def dstsOf (l:List Oper):List Tmp:=l.filterMap (·.dst)
def okQ (ops:Array Oper) (all:List Tmp) (size:Nat):List Oper→List Tmp→Bool
 | [],_=>true
 | o :: r,bef=>match o.dst with
  | none=>false
  | some d=>decide (d<size) && !bef.contains d && !(dstsOf r).contains d&&(o.looksAt ops).all (fun x => !all.contains x||bef.contains x)&&okQ ops all size r (d :: bef)
def opAt (P:Program) (ops:Array Oper) (W:World) (o:Oper) (B:Act) (v:Value):Prop :=
 if Region.wanted o (yielded ops B.tmps)=true then ∀ p:Regrown,gqAt P o B (gm W p) v else v=undef
theorem z2m {P:Program} {ops:Array Oper} {W:World} {R:Act→Prop} {all:List Tmp} : ∀ (lq:List Oper) (bef:List Tmp) (a:Act),okQ ops all a.tmps.size lq bef=true→(∀ t,t ∈ bef∨t ∈ dstsOf lq→t ∈ all)→wpG P ops W R lq a →
  ∃ (ν:Tmp→Value) (A:Act),(∀ t,t ∈ bef → ν t=slot a t)∧R A∧A.defers=a.defers∧A.tmps.size=a.tmps.size∧(∀ t,slot A t=if t ∈ dstsOf lq then ν t else slot a t) ∧
   ∀ o ∈ lq,∃ d,o.dst=some d ∧ ∃ B,B.tmps.size=a.tmps.size∧opAt P ops W o B (ν d) ∧ ∀ x ∈ o.looksAt ops,slot B x=if x ∈ bef∨x ∈ dstsOf lq then ν x else slot a x
 | [],bef,a,_,_,h=>⟨slot a,a,fun _ _=>rfl,h,rfl,rfl,fun t=>by simp [dstsOf],fun o ho=>by cases ho⟩
 | o :: r,bef,a,hB,hall,h=>by
  cases hd:o.dst with
  | none=>simp [okQ,hd] at hB
  | some d =>
   simp only [okQ,hd,Bool.and_eq_true,decide_eq_true_eq,Bool.not_eq_true',List.all_eq_true,Bool.or_eq_true] at hB
   obtain ⟨⟨⟨⟨hsz,hnb⟩,hnr⟩,hlook⟩,hrest⟩:=hB
   have hnb' : d ∉ bef:=by simpa using hnb
   have hnr' : d ∉ dstsOf r:=by simpa using hnr
   have hds:dstsOf (o :: r)=d :: dstsOf r:=by simp [dstsOf,hd]
   have hall' : ∀ t,t ∈ d :: bef∨t ∈ dstsOf r→t ∈ all:=by
    intro t ht
    apply hall
    rw [hds]
    simp only [List.mem_cons] at ht ⊢
    rcases ht with (h|h)|h
    ·exact .inr (.inl h)
    ·exact .inl h
    ·exact .inr (.inr h)
   have key : ∃ v,opAt P ops W o a v∧wpG P ops W R r (a.put (some d) v):=by
    simp only [wpG] at h
    by_cases hw:Region.wanted o (yielded ops a.tmps)=true
    ·rw [if_pos hw] at h
     obtain ⟨v,h1,h2⟩:=h
     exact ⟨v,by unfold opAt;rw [if_pos hw];exact h1,by rw [← hd];exact h2⟩
    ·rw [if_neg hw] at h
     exact ⟨undef,by unfold opAt;rw [if_neg hw],by rw [← hd];exact h⟩
   obtain ⟨v,hop,hnext⟩:=key
   obtain ⟨ν,A,h1,h2,h3,h4,h5,h6⟩:=z2m r (d :: bef) (a.put (some d) v) (by rw [size_put];exact hrest) hall' hnext
   have hνd : ν d=v:=by rw [h1 d (List.mem_cons.2 (.inl rfl)),qi a d d v hsz,if_pos rfl]
   have hνb : ∀ t,t ∈ bef → ν t=slot a t:=by
    intro t ht
    rw [h1 t (List.mem_cons.2 (.inr ht)),qi a d t v hsz,if_neg (fun e:t=d=>hnb' (e ▸ ht))]
   refine ⟨ν,A,hνb,h2,h3.trans (z1o _ _ _),h4.trans (size_put _ _ _),fun t=>?_,fun o' ho'=>?_⟩
   ·rw [h5 t,hds]
    by_cases ht:t ∈ dstsOf r
    ·rw [if_pos ht,if_pos (List.mem_cons.2 (.inr ht))]
    ·rw [if_neg ht,qi a d t v hsz]
     by_cases e:t=d
     ·subst e;rw [if_pos rfl,if_pos (List.mem_cons.2 (.inl rfl)),hνd]
     ·rw [if_neg e,if_neg (fun h=>(List.mem_cons.1 h).elim e ht)]
   ·rcases List.mem_cons.1 ho' with rfl|ho''
    ·refine ⟨d,hd,a,rfl,by rw [hνd];exact hop,fun x hx=>?_⟩
     split
     ·rename_i hin
      have hxa:=hall x hin
      have:=hlook x hx
      rcases this with h'|h'
      ·simp [hxa] at h'
      ·exact (hνb x (by simpa using h')).symm
     ·rfl
    ·obtain ⟨d',hd',B,hBs,hop',hlk⟩:=h6 o' ho''
     refine ⟨d',hd',B,hBs.trans (size_put _ _ _),hop',fun x hx=>?_⟩
     rw [hlk x hx,hds]
     by_cases hx1:x ∈ d :: bef∨x ∈ dstsOf r
     ·rw [if_pos hx1,if_pos]
      rcases hx1 with h|h
      ·rcases List.mem_cons.1 h with e|e
       ·exact .inr (List.mem_cons.2 (.inl e))
       ·exact .inl e
      ·exact .inr (List.mem_cons.2 (.inr h))
     ·rw [if_neg hx1,qi a d x v hsz,if_neg (fun e=>hx1 (.inl (List.mem_cons.2 (.inl e)))),if_neg]
      rintro (h|h)
      ·exact hx1 (.inl (List.mem_cons.2 (.inr h)))
      ·rcases List.mem_cons.1 h with e|e
       ·exact hx1 (.inl (List.mem_cons.2 (.inl e)))
       ·exact hx1 (.inr e)
def qb (l:List Oper) (n:Nat) (ms:List Nat):List Oper:=((List.range n).filter (fun i => !ms.contains i)).filterMap (l[·]?)
def zR (l:List Oper) (ms:List Nat):List Oper:=ms.filterMap (l[·]?)
def headB (ops:Array Oper) (n:Nat) (ms:List Nat) (size:Nat):Bool :=
 let all:=dstsOf (qb ops.toList n ms)
 let mk:=dstsOf (zR ops.toList ms)
 okQ ops all size (qb ops.toList n ms) []&&ms.all (fun m=>decide (m<n)) &&
 (zR ops.toList ms).all (fun o=>match o.dst with|none=>false|some d=>decide (d<size) && !all.contains d)&&mk.eraseDups.length==mk.length &&
 (List.range n).all (fun i=>match ops[i]? with
  | none=>false
  | some o=>(o.looksAt ops).all (fun x => !mk.contains x&&(!all.contains x||o.after.any (fun e=>Region.binds .any e&&((ops[e.on]?).bind (·.dst))==some x&&decide (e.on<n) && !ms.contains e.on))))
theorem qo {l:List Oper} {t:Tmp} : t ∈ dstsOf l ↔ ∃ o ∈ l,o.dst=some t:=by simp [dstsOf]
theorem z0C {ops:Array Oper} {n:Nat} {ms:List Nat} {o:Oper} : o ∈ qb ops.toList n ms ↔ ∃ i,i<n∧i ∉ ms∧ops[i]? = some o:=by
 simp [qb,List.mem_filterMap,and_assoc]
theorem qI {ops:Array Oper} {ms:List Nat} {o:Oper} : o ∈ zR ops.toList ms ↔ ∃ i,i ∈ ms∧ops[i]? = some o:=by
 simp [zR,List.mem_filterMap]
def qa (listed:Array Bool) (n:Nat):Nat:=((List.range n).filter (fun i => !listed.getD i true)).length
theorem z1Y {listed:Array Bool} {n i:Nat} (hi:i<n) (h:listed.getD i true=false):qa (listed.setIfInBounds i true) n<qa listed n:=by
 have key : ∀ l:List Nat,l.Nodup→(l.filter (fun j => !(listed.setIfInBounds i true).getD j true)).length+(if i ∈ l then 1 else 0)=(l.filter (fun j => !listed.getD j true)).length:=by
  intro l
  induction l with
  | nil=>intro _;simp
  | cons x l ih =>
   intro hnd
   have ⟨hx,hnd'⟩:=List.nodup_cons.1 hnd
   have ih':=ih hnd'
   by_cases e:i=x
   ·subst e
    rw [if_neg hx] at ih'
    rw [if_pos (by simp)]
    have h1:(listed.setIfInBounds i true).getD i true=true:=by
     rcases Nat.lt_or_ge i listed.size with h'|h'
     ·simp [h']
     ·simp [h']
    simp only [List.filter_cons,h1,h,Bool.not_true,Bool.not_false,Bool.false_eq_true,if_false,if_true,List.length_cons]
    omega
   ·have h1:(listed.setIfInBounds i true).getD x true=listed.getD x true:=getD_set_ne true e
    have h2:(i ∈ x :: l)=(i ∈ l):=by simp [e]
    simp only [List.filter_cons,h1,h2]
    split
    ·simp only [List.length_cons];omega
    ·exact ih'
 have:=key (List.range n) List.nodup_range
 rw [if_pos (List.mem_range.2 hi)] at this
 unfold qa
 omega
def qV (size n:Nat):Array Bool:=((List.range size).map (fun i=>decide (i<n))).toArray
theorem z0v {ops:Array Oper} {n:Nat} {listed:Array Bool} (inv:HeadInv .any ops n listed) (h:qa listed n=0):listed=qV ops.size n:=by
 have hall : ∀ i,i<n→listed.getD i true=true:=by
  intro i hi
  cases hb:listed.getD i true with
  | true=>rfl
  | false =>
   have:i ∈ (List.range n).filter (fun i => !listed.getD i true):=by rw [List.mem_filter];exact ⟨List.mem_range.2 hi,by rw [hb];rfl⟩
   unfold qa at h
   rw [List.length_eq_zero_iff.1 h] at this
   cases this
 apply Array.ext
 ·simp [qV,inv.size]
 ·intro i h1 h2
  simp only [qV,List.getElem_toArray,List.getElem_map,List.getElem_range]
  by_cases hi:i<n
  ·have:=hall i hi
   simpa [h1,hi] using this
  ·have:=inv.tail i (by omega) (by rw [← inv.size];exact h1)
   simpa [h1,hi] using this
theorem z0l {P:Program} {ops:Array Oper} {Q:Exit→Act→World→Prop} {n g:Nat} (I:Array Bool→Act→World→Prop) (inv : ∀ listed a w,I listed a w→HeadInv .any ops n listed)
  (hwait : ∀ listed,HeadInv .any ops n listed→qa listed n ≠ 0→Region.ready .any ops listed ≠ [] ∧ ∀ i ∈ Region.ready .any ops listed,i<n)
  (step : ∀ listed a w i,I listed a w→i<n→i ∈ Region.ready .any ops listed→wpOp P ops Q i (I (listed.setIfInBounds i true)) a w)
  (done : ∀ listed a w,I listed a w→qa listed n=0 → ∀ f,g≤f→wpAny P .any ops Q f listed a w) :
  ∀ (f:Nat) (listed:Array Bool) (a:Act) (w:World),qa listed n+g≤f→I listed a w→wpAny P .any ops Q f listed a w
 | 0,listed,a,w,hf,h=>done _ _ _ h (by omega) _ (by omega)
 | f+1,listed,a,w,hf,h=>by
  by_cases h0:qa listed n=0
  ·exact done _ _ _ h h0 _ (by omega)
  ·obtain ⟨h1,h2⟩:=hwait listed (inv _ _ _ h) h0
   refine ⟨fun e=>absurd e h1,fun i hi=>?_⟩
   refine wpOp_mono (fun a' w' h'=>z0l I inv hwait step done f _ a' w' ?_ h') (step _ _ _ i h (h2 i hi) hi)
   have:=z1Y (h2 i hi) (mem_ready.1 hi).1
   omega
theorem z0m {P:Program} {ops:Array Oper} {Q:Exit→Act→World→Prop} : ∀ (f:Nat) (k:Nat) (listed:Array Bool) (a:Act) (w:World),wpAny P .any ops Q f listed a w→wpAny P .any ops Q (f+k) listed a w
 | 0,0,_,_,_,h=>h
 | 0,k+1,listed,a,w,h=>by
  rw [Nat.zero_add]
  exact ⟨fun _=>h.2,fun i hi=>by rw [h.1] at hi;cases hi⟩
 | f+1,k,listed,a,w,h=>by
  rw [show f+1+k=(f+k)+1 by omega]
  exact ⟨h.1,fun i hi=>wpOp_mono (fun a' w' h'=>z0m f k _ a' w' h') (h.2 i hi)⟩
def z4o (ops:Array Oper) (n:Nat):Bool:=(List.range n).all (fun i=>(List.range n).all (fun j=>i==j||((ops[i]?).bind (·.dst)) != ((ops[j]?).bind (·.dst))))
def qmB (ops:Array Oper) (n:Nat) (ms:List Nat) (size:Nat):Bool :=
 headB ops n ms size&&Region.noSelect ops&&z4o ops n&&decide (n≤ops.size) &&
 (List.range n).all (fun i=>match ops[i]? with|none=>false|some o=>o.after.all (fun e => !Region.binds .any e||decide (e.on<i))) &&
 (decide (n=ops.size)||(Region.sinkB .any ops n&&Region.chainB .any ops n))&&Region.seqB .any ops (ops.size-n) n (qV ops.size n)
theorem z4E {P:Program} {ops:Array Oper} {W:World} {A:Act} : ∀ (lm:List Oper) (fs:List ((Nat→Value) × Obj)),(∀ o ∈ lm,∃ d,o.dst=some d)→(dstsOf lm).Nodup→z1z P ops W A lm fs →
  ∃ (F:Tmp→Nat→Value) (O:Tmp→Obj),(∀ o ∈ lm,∀ d,o.dst=some d→Region.wanted o (yielded ops A.tmps)=true ∧ ∀ p:Regrown,makes P o A (gm W p) (F d) (O d)) ∧
   ∀ (β:Tmp→Nat) (acc:Act),(∀ d,d ∈ dstsOf lm→d<acc.tmps.size) → ∀ t,slot (z1l lm fs ((dstsOf lm).map β) acc) t=if t ∈ dstsOf lm then F t (β t) else slot acc t
 | [],[],_,_,_=>⟨fun _ _=>undef,fun _=>default,fun o h=>(by cases h),fun β acc _ t=>by simp [z1l,dstsOf]⟩
 | [],_ :: _,_,_,h=>h.elim
 | _ :: _,[],_,_,h=>h.elim
 | o :: r,(f,ob) :: s,hd,hn,h=>by
  obtain ⟨d,hdo⟩:=hd o (List.mem_cons.2 (.inl rfl))
  have hds:dstsOf (o :: r)=d :: dstsOf r:=by simp [dstsOf,hdo]
  rw [hds] at hn
  obtain ⟨hnd,hn'⟩:=List.nodup_cons.1 hn
  obtain ⟨h1,h2,h3⟩:=h
  obtain ⟨F,O,k1,k2⟩:=z4E r s (fun o' ho'=>hd o' (List.mem_cons.2 (.inr ho'))) hn' h3
  refine ⟨fun t=>if t=d then f else F t,fun t=>if t=d then ob else O t,fun o' ho' d' hd'=>?_,fun β acc hsz t=>?_⟩
  ·rcases List.mem_cons.1 ho' with rfl|ho''
   ·have e:d' = d:=Option.some.inj (hd'.symm.trans hdo)
    subst e
    simp only [if_true]
    exact ⟨h1,h2⟩
   ·have hne:d' ≠ d:=fun e=>hnd (by rw [← e];exact qo.2 ⟨o',ho'',hd'⟩)
    simp only [if_neg hne]
    exact k1 o' ho'' d' hd'
  ·rw [hds]
   simp only [List.map_cons,z1l,hdo]
   rw [k2 β (acc.put (some d) (f (β d))) (fun d' hd'=>by rw [size_put];exact hsz d' (by rw [hds];exact List.mem_cons.2 (.inr hd'))) t]
   have hsd:d<acc.tmps.size:=hsz d (by rw [hds];exact List.mem_cons.2 (.inl rfl))
   by_cases e:t=d
   ·subst e
    rw [if_neg hnd,qi acc t t _ hsd,if_pos rfl,if_pos (List.mem_cons.2 (.inl rfl)),if_pos rfl]
   ·by_cases ht:t ∈ dstsOf r
    ·rw [if_pos ht,if_pos (List.mem_cons.2 (.inr ht)),if_neg e]
    ·rw [if_neg ht,qi acc d t _ hsd,if_neg e,if_neg (fun h=>(List.mem_cons.1 h).elim e ht)]
theorem z10 : ∀ (lm:List Oper) (fs:List ((Nat→Value) × Obj)) (bs:List Nat) (acc:Act),(z1l lm fs bs acc).tmps.size=acc.tmps.size∧(z1l lm fs bs acc).defers=acc.defers
 | [],_,_,_=>⟨rfl,rfl⟩
 | _ :: _,[],_,_=>⟨rfl,rfl⟩
 | _ :: _,_ :: _,[],_=>⟨rfl,rfl⟩
 | o :: r,(f,_) :: s,b :: bs,acc=>by
  have:=z10 r s bs (acc.put o.dst (f b))
  exact ⟨this.1.trans (size_put _ _ _),this.2.trans (z1o _ _ _)⟩
theorem z1Z {P:Program} {ops:Array Oper} {W:World} {A:Act} {w:World} {β:Tmp→Nat} {O:Tmp→Obj} : ∀ (lm:List Oper) (fs:List ((Nat→Value) × Obj)),(∀ o ∈ lm,∃ d,o.dst=some d)→z1z P ops W A lm fs →
  (∀ o ∈ lm,∀ d,o.dst=some d→w.heap[β d]? = some (O d) ∧ ∀ (f:Nat→Value) (ob:Obj),(∀ p:Regrown,makes P o A (gm W p) f ob)→ob=O d)→z3i fs ((dstsOf lm).map β) w
 | [],[],_,_,_=>trivial
 | [],_ :: _,_,h,_=>h.elim
 | _ :: _,[],_,h,_=>h.elim
 | o :: r,(f,ob) :: s,hd,h,hh=>by
  obtain ⟨d,hdo⟩:=hd o (List.mem_cons.2 (.inl rfl))
  have hds:dstsOf (o :: r)=d :: dstsOf r:=by simp [dstsOf,hdo]
  obtain ⟨h1,h2,h3⟩:=h
  obtain ⟨k1,k2⟩:=hh o (List.mem_cons.2 (.inl rfl)) d hdo
  rw [hds]
  refine ⟨by rw [k1,k2 f ob h2],z1Z r s (fun o' ho'=>hd o' (List.mem_cons.2 (.inr ho'))) h3 (fun o' ho'=>hh o' (List.mem_cons.2 (.inr ho')))⟩
theorem z4m {w:World} {a b:Obj} (h:w.alloc a=w.alloc b):a=b:=by
 have:=congrArg (fun w' : World=>w'.heap[w.heap.size]?) h
 simp only [heap_alloc_new] at this
 exact Option.some.inj this
theorem z4C {P:Program} {o:Oper} {A:Act} {w:World} {f g:Nat→Value} {a b:Obj} (h:makes P o A w f a) (k:makes P o A w g b):a=b:=by
 unfold makes at h k
 rw [h] at k
 have:=(Result.ok.inj k).2
 exact z4m this
theorem z0R {ops:Array Oper} {n:Nat} (hn:n≤ops.size) (hdep:((List.range n).all fun i=>match ops[i]? with|none=>false|some o=>o.after.all (fun e => !Region.binds .any e||decide (e.on<i)))=true)
  (htail:n=ops.size∨(Region.sinkB .any ops n=true∧Region.chainB .any ops n=true)) {listed:Array Bool} (inv:HeadInv .any ops n listed) (h:qa listed n ≠ 0) :
  Region.ready .any ops listed ≠ [] ∧ ∀ i ∈ Region.ready .any ops listed,i<n:=by
 have hex : ∃ i,i<n∧listed.getD i true=false ∧ ∀ j,j<i→listed.getD j true=true:=by
  have hne:((List.range n).filter (fun i => !listed.getD i true)) ≠ []:=fun e=>h (by unfold qa;rw [e];rfl)
  have hsome : ∃ i,i<n∧listed.getD i true=false:=by
   obtain ⟨i,hi⟩:=List.exists_mem_of_ne_nil _ hne
   rw [List.mem_filter] at hi
   exact ⟨i,List.mem_range.1 hi.1,by simpa using hi.2⟩
  have : ∀ k,∀ i,i<k→i<n→listed.getD i true=false → ∃ i,i<n∧listed.getD i true=false ∧ ∀ j,j<i→listed.getD j true=true:=by
   intro k
   induction k with
   | zero=>intro i hi;omega
   | succ k ih =>
    intro i hik hin hf
    by_cases hc : ∃ j,j<i∧listed.getD j true=false
    ·obtain ⟨j,hj,hjf⟩:=hc
     exact ih j (by omega) (by omega) hjf
    ·refine ⟨i,hin,hf,fun j hj=>?_⟩
     cases hb:listed.getD j true with
     | true=>rfl
     | false=>exact absurd ⟨j,hj,hb⟩ hc
  obtain ⟨i,hi,hf⟩:=hsome
  exact this (i+1) i (by omega) hi hf
 obtain ⟨i0,hi0,hun,hleast⟩:=hex
 have hr:i0 ∈ Region.ready .any ops listed:=by
  have hd:=List.all_eq_true.1 hdep i0 (List.mem_range.2 hi0)
  cases ho:ops[i0]? with
  | none=>rw [ho] at hd;cases hd
  | some o =>
   rw [ho] at hd
   refine mem_ready.2 ⟨hun,o,ho,fun e he hb=>?_⟩
   have hlt:=Array.all_eq_true_iff_forall_mem.1 hd e he
   simp only [hb,Bool.not_true,Bool.false_or,decide_eq_true_eq] at hlt
   have ht:=hleast e.on hlt
   have hsz:e.on<listed.size:=by rw [inv.size];omega
   simpa [hsz] using ht
 refine ⟨fun e=>(by rw [e] at hr;cases hr),fun i hi=>?_⟩
 rcases Nat.lt_or_ge i n with hlt|hge
 ·exact hlt
 ·exfalso
  obtain ⟨_,o,ho,_⟩:=mem_ready.1 hi
  have hio:i<ops.size:=(Array.getElem?_eq_some_iff.1 ho).1
  rcases htail with e|⟨hs,hc⟩
  ·omega
  ·exact tail_waits hs hc (by omega) inv _ i0 rfl hi0 hun i hge hi
theorem z3c {ops:Array Oper} {n i j:Nat} (h:z4o ops n=true) (hi:i<n) (hj:j<n) (hne:i ≠ j) {o o' : Oper} (ho:ops[i]? = some o) (ho' : ops[j]? = some o'):o.dst ≠ o'.dst:=by
 have h1:=List.all_eq_true.1 h i (List.mem_range.2 hi)
 have h2:=List.all_eq_true.1 h1 j (List.mem_range.2 hj)
 rw [ho,ho'] at h2
 simp only [Option.bind_some,Bool.or_eq_true,beq_iff_eq,bne_iff_ne] at h2
 rcases h2 with h2|h2
 ·exact absurd h2 hne
 ·exact h2
theorem z0o : ∀ {lm:List Oper},(∀ o ∈ lm,∃ d,o.dst=some d)→(dstsOf lm).length=lm.length
 | [],_=>rfl
 | o :: r,h=>by
  obtain ⟨d,hd⟩:=h o (List.mem_cons.2 (.inl rfl))
  have:=z0o (lm:=r) (fun o' ho'=>h o' (List.mem_cons.2 (.inr ho')))
  simp only [dstsOf,List.filterMap_cons,hd,List.length_cons] at this ⊢
  omega
theorem nodup_of_eraseDups {l:List Nat} (h:(l.eraseDups.length==l.length)=true):l.Nodup:=by
 have key : ∀ (k:Nat) (l:List Nat),l.length≤k→l.eraseDups.length≤l.length∧(l.eraseDups.length=l.length→l.Nodup):=by
  intro k
  induction k with
  | zero=>intro l hl;have:l = []:=List.length_eq_zero_iff.1 (by omega);subst this;simp
  | succ k ih =>
   intro l hl
   cases l with
   | nil=>simp
   | cons x l =>
    rw [List.eraseDups_cons]
    have hf:(l.filter (fun b => !b==x)).length≤l.length:=List.length_filter_le _ _
    obtain ⟨h1,h2⟩:=ih (l.filter (fun b => !b==x)) (by simp at hl;omega)
    simp only [List.length_cons]
    refine ⟨by omega,fun e=>?_⟩
    have e1:(l.filter (fun b => !b==x)).length=l.length:=by omega
    have e2:l.filter (fun b => !b==x)=l:=List.filter_eq_self.2 (fun y hy=>by
     have:=List.length_filter_eq_length_iff.1 e1 y hy
     exact this)
    have hx:x ∉ l:=by
     intro hx
     have:=List.filter_eq_self.1 e2 x hx
     simp at this
    have hn:l.Nodup:=by
     have:=h2 (by omega)
     rwa [e2] at this
    exact List.nodup_cons.2 ⟨hx,hn⟩
 exact (key l.length l (Nat.le_refl _)).2 (by simpa using h)
theorem z2n {P:Program} {id:Nat} {Q:Exit→Act→World→Prop} {a:Act} {w:World} {l lq lm lt:List Oper} (n:Nat) (ms:List Nat) (hm:P.follows .mixedOrders=true) (hB:qmB l.toArray n ms a.tmps.size=true)
  (hq:qb l n ms=lq) (hmk:zR l ms=lm) (ht:l.drop n=lt)
  (h:wpG P l.toArray w.drew (fun A => ∃ fs,z1z P l.toArray w.drew A lm fs ∧ ∀ bs:List Nat,bs.length=lm.length→bs.Nodup→(∀ b ∈ bs,w.drew.heap.size≤b) → ∀ p:Regrown,z3i fs bs (gm w.drew p)→wpList P l.toArray Q lt (z1l lm fs bs A) (gm w.drew p)) lq a) :
  (Code.region id l.toArray true).wp P Q a w:=by
 subst hq;subst hmk;subst ht
 simp only [qmB,Bool.and_eq_true,decide_eq_true_eq,Bool.or_eq_true] at hB
 obtain ⟨⟨⟨⟨⟨⟨hhead,hsel⟩,hap⟩,hn⟩,hdep⟩,htail⟩,hseq⟩:=hB
 simp only [headB,Bool.and_eq_true] at hhead
 obtain ⟨⟨⟨⟨hokq,hmsn⟩,hmkd⟩,hmkn⟩,hlook⟩:=hhead
 have hsel':=Region.noSelect_spec hsel
 have hmsn' : ∀ m ∈ ms,m<n:=fun m h=>by have:=List.all_eq_true.1 hmsn m h;simpa using this
 have hmkd' : ∀ o ∈ zR l ms,∃ d,o.dst=some d∧d<a.tmps.size∧d ∉ dstsOf (qb l n ms):=fun o ho=>by
  have:=List.all_eq_true.1 hmkd o (by simpa using ho)
  cases hd:o.dst with
  | none=>simp [hd] at this
  | some d=>simp [hd] at this;exact ⟨d,rfl,by simpa using this⟩
 have hmkdst : ∀ o ∈ zR l ms,∃ d,o.dst=some d:=fun o ho=>let ⟨d,h1,_⟩:=hmkd' o ho;⟨d,h1⟩
 have hnodup:(dstsOf (zR l ms)).Nodup:=nodup_of_eraseDups (by simpa using hmkn)
 obtain ⟨ν,A,_,hR,hAd,hAs,hAslot,htr⟩:=z2m (all:=dstsOf (qb l n ms)) (qb l n ms) [] a (by simpa using hokq) (fun t ht=>by simpa using ht) h
 obtain ⟨fs,hmake,hfin⟩:=hR
 obtain ⟨F,O,hFO,hput⟩:=z4E _ _ hmkdst hnodup hmake
 have hmemq : ∀ i o,i<n→i ∉ ms→l.toArray[i]? = some o→o ∈ qb l n ms:=fun i o h1 h2 h3=>by
  have:=(z0C (ops:=l.toArray)).2 ⟨i,h1,h2,h3⟩
  simpa using this
 have hmemm : ∀ i o,i ∈ ms→l.toArray[i]? = some o→o ∈ zR l ms:=fun i o h1 h2=>by
  have:=(qI (ops:=l.toArray)).2 ⟨i,h1,h2⟩
  simpa using this
 let I:Array Bool→Act→World→Prop:=fun listed a' w' => ∃ (β:Tmp→Nat) (q:Regrown),w' = gm w.drew q∧a'.defers=a.defers∧a'.tmps.size=a.tmps.size∧HeadInv .any l.toArray n listed ∧
  (∀ t,t ∉ dstsOf (qb l n ms)→t ∉ dstsOf (zR l ms)→slot a' t=slot a t) ∧
  (∀ i o d,i<n→i ∉ ms→l.toArray[i]? = some o→o.dst=some d→slot a' d=if listed.getD i false=true then ν d else slot a d) ∧
  (∀ i o d,i ∈ ms→l.toArray[i]? = some o→o.dst=some d→slot a' d=if listed.getD i false=true then F d (β d) else slot a d) ∧
  (∀ i o d,i ∈ ms→l.toArray[i]? = some o→o.dst=some d→listed.getD i false=true→w.heap.size≤β d∧w'.heap[β d]? = some (O d)) ∧
  (∀ i o d j o' d',i ∈ ms→l.toArray[i]? = some o→o.dst=some d→listed.getD i false=true→j ∈ ms→l.toArray[j]? = some o' → o'.dst=some d' → listed.getD j false=true→i ≠ j → β d ≠ β d')
 -- what an operation sees
 have sees : ∀ {listed:Array Bool} {a' : Act} {w' : World} {i:Nat} {o:Oper},I listed a' w' → i<n→i ∈ Region.ready .any l.toArray listed→l.toArray[i]? = some o →
   ∀ x ∈ o.looksAt l.toArray,slot a' x=if x ∈ dstsOf (qb l n ms) then ν x else slot a x:=by
  intro listed a' w' i o ⟨β,q,_,_,_,hinv,s1,s2,s3,s4,s5⟩ hi hr ho x hx
  have hl:=List.all_eq_true.1 hlook i (List.mem_range.2 hi)
  rw [ho] at hl
  have hl':=List.all_eq_true.1 hl x hx
  simp only [Bool.and_eq_true,Bool.not_eq_true',Bool.or_eq_true] at hl'
  obtain ⟨hxm,hxq⟩:=hl'
  have hxm' : x ∉ dstsOf (zR l ms):=by simpa using hxm
  by_cases hxin:x ∈ dstsOf (qb l n ms)
  ·rw [if_pos hxin]
   rcases hxq with hxq|hxq
   ·have:x ∉ dstsOf (qb l n ms):=by simpa using hxq
    exact absurd hxin this
   ·obtain ⟨k,hk,he2⟩:=Array.any_eq_true.1 hxq
    simp only [Bool.and_eq_true,beq_iff_eq,decide_eq_true_eq,Bool.not_eq_true'] at he2
    obtain ⟨⟨⟨hb,hdx⟩,hen⟩,hems⟩:=he2
    obtain ⟨_,o2,ho2,hall⟩:=mem_ready.1 hr
    have:o2=o:=Option.some.inj (ho2.symm.trans ho)
    subst this
    have hle:=hall _ (Array.getElem_mem hk) hb
    cases hoe:(l.toArray)[o2.after[k].on]? with
    | none=>rw [hoe] at hdx;cases hdx
    | some oe =>
     rw [hoe] at hdx
     rw [s2 _ oe x hen (by simpa using hems) hoe (by simpa using hdx),if_pos hle]
  ·rw [if_neg hxin];exact s1 x hxin hxm'
 -- the frame behind an operation
 have after : ∀ {listed:Array Bool} {a' : Act} {w' w'' : World} {i:Nat} {o:Oper} {d:Tmp} {v:Value},I listed a' w' → i<n→i ∈ Region.ready .any l.toArray listed→l.toArray[i]? = some o→o.dst=some d→d<a.tmps.size →
   (i ∉ ms→v = ν d ∧ ∃ q,w'' = gm w' q)→(i ∈ ms→v=F d w'.heap.size∧w'' = w'.alloc (O d))→I (listed.setIfInBounds i true) (a'.put o.dst v) w'':=by
  intro listed a' w' w'' i o d v ⟨β,q,hw,hdef,hsz,hinv,s1,s2,s3,s4,s5⟩ hi hr ho hd hdlt hq hmm
  have hdlt' : d<a'.tmps.size:=hsz ▸ hdlt
  have hilt:i<listed.size:=by rw [hinv.size];exact (Array.getElem?_eq_some_iff.1 ho).1
  have hself:(listed.setIfInBounds i true).getD i false=true:=by simp [hilt]
  have hoth : ∀ j,i ≠ j→(listed.setIfInBounds i true).getD j false=listed.getD j false:=fun j hj=>getD_set_ne false hj
  have hdd : ∀ j o' d',j<n→i ≠ j→l.toArray[j]? = some o' → o'.dst=some d' → d' ≠ d:=fun j o' d' hj hij ho' hd' e=>by
   subst e;exact z3c hap hi hj hij ho ho' (hd.trans hd'.symm)
  have hgrow : ∃ q',w'' = gm w.drew q':=by
   by_cases him:i ∈ ms
   ·obtain ⟨_,e⟩:=hmm him
    rw [e,hw]
    exact ⟨_,gm_alloc _ q _⟩
   ·obtain ⟨_,q',e⟩:=hq him
    rw [e,hw]
    exact gm_two _ q q'
  have hkeep : ∀ (b:Nat) (ob:Obj),w'.heap[b]? = some ob→w''.heap[b]? = some ob:=by
   intro b ob hb
   have hlt:b<w'.heap.size:=by
    rcases Nat.lt_or_ge b w'.heap.size with h|h
    ·exact h
    ·rw [Array.getElem?_eq_none h] at hb;cases hb
   by_cases him:i ∈ ms
   ·obtain ⟨_,e⟩:=hmm him
    rw [e,@heap_alloc_old _ _ _ hlt];exact hb
   ·obtain ⟨_,q',e⟩:=hq him
    rw [e,gm_heap _ _ _ hlt];exact hb
  obtain ⟨q',hq'⟩:=hgrow
  rw [hd]
  refine ⟨if i ∈ ms then (fun t=>if t=d then w'.heap.size else β t) else β,q',hq',hdef,(size_put _ _ _).trans hsz,hinv.set hr hi,?_,?_,?_,?_,?_⟩
  ·intro t ht1 ht2
   rw [qi a' d t v hdlt',if_neg]
   ·exact s1 t ht1 ht2
   ·intro e
    subst e
    by_cases him:i ∈ ms
    ·exact ht2 (qo.2 ⟨o,hmemm i o him ho,hd⟩)
    ·exact ht1 (qo.2 ⟨o,hmemq i o hi him ho,hd⟩)
  ·intro j o' d' hj hjm ho' hd'
   by_cases hij:i=j
   ·subst hij
    have e1:o' = o:=Option.some.inj (ho'.symm.trans ho)
    subst e1
    have e2:d' = d:=Option.some.inj (hd'.symm.trans hd)
    subst e2
    rw [hself,if_pos rfl,qi a' d' d' v hdlt',if_pos rfl]
    exact (hq hjm).1
   ·rw [hoth j hij,qi a' d d' v hdlt',if_neg (hdd j o' d' hj hij ho' hd')]
    exact s2 j o' d' hj hjm ho' hd'
  ·intro j o' d' hjm ho' hd'
   by_cases hij:i=j
   ·subst hij
    have e1:o' = o:=Option.some.inj (ho'.symm.trans ho)
    subst e1
    have e2:d' = d:=Option.some.inj (hd'.symm.trans hd)
    subst e2
    rw [hself,if_pos rfl,qi a' d' d' v hdlt',if_pos rfl,if_pos hjm]
    simp only [if_true]
    exact (hmm hjm).1
   ·have hne:=hdd j o' d' (hmsn' j hjm) hij ho' hd'
    rw [hoth j hij,qi a' d d' v hdlt',if_neg hne,s3 j o' d' hjm ho' hd']
    split
    ·split
     ·simp only [if_neg hne]
     ·rfl
    ·rfl
  ·intro j o' d' hjm ho' hd' hl
   by_cases hij:i=j
   ·subst hij
    have e1:o' = o:=Option.some.inj (ho'.symm.trans ho)
    subst e1
    have e2:d' = d:=Option.some.inj (hd'.symm.trans hd)
    subst e2
    rw [if_pos hjm]
    simp only [if_true]
    refine ⟨by rw [hw];simp,?_⟩
    rw [(hmm hjm).2];exact heap_alloc_new w' _
   ·have hne:=hdd j o' d' (hmsn' j hjm) hij ho' hd'
    rw [hoth j hij] at hl
    obtain ⟨k1,k2⟩:=s4 j o' d' hjm ho' hd' hl
    have e:(if i ∈ ms then (fun t=>if t=d then w'.heap.size else β t) else β) d' = β d':=by
     split
     ·simp only [if_neg hne]
     ·rfl
    rw [e]
    exact ⟨k1,hkeep _ _ k2⟩
  ·intro j o1 d1 k o2 d2 hjm ho1 hd1 hl1 hkm ho2 hd2 hl2 hjk
   have lt : ∀ m o3 d3,m ∈ ms→l.toArray[m]? = some o3→o3.dst=some d3→listed.getD m false=true → β d3<w'.heap.size:=by
    intro m o3 d3 hm3 ho3 hd3 hl3
    have:=(s4 m o3 d3 hm3 ho3 hd3 hl3).2
    rcases Nat.lt_or_ge (β d3) w'.heap.size with h|h
    ·exact h
    ·rw [Array.getElem?_eq_none h] at this;cases this
   by_cases hij:i=j
   ·subst hij
    have e1:o1=o:=Option.some.inj (ho1.symm.trans ho)
    subst e1
    have e2:d1=d:=Option.some.inj (hd1.symm.trans hd)
    subst e2
    rw [hoth k hjk] at hl2
    have hne:=hdd k o2 d2 (hmsn' k hkm) hjk ho2 hd2
    rw [if_pos hjm]
    simp only [if_true,if_neg hne]
    have:=lt k o2 d2 hkm ho2 hd2 hl2
    omega
   ·rw [hoth j hij] at hl1
    have hne1:=hdd j o1 d1 (hmsn' j hjm) hij ho1 hd1
    by_cases hik:i=k
    ·subst hik
     have e1:o2=o:=Option.some.inj (ho2.symm.trans ho)
     subst e1
     have e2:d2=d:=Option.some.inj (hd2.symm.trans hd)
     subst e2
     rw [if_pos hkm]
     simp only [if_true,if_neg hne1]
     have:=lt j o1 d1 hjm ho1 hd1 hl1
     omega
    ·rw [hoth k hik] at hl2
     have hne2:=hdd k o2 d2 (hmsn' k hkm) hik ho2 hd2
     split
     ·simp only [if_neg hne1,if_neg hne2]
      exact s5 j o1 d1 k o2 d2 hjm ho1 hd1 hl1 hkm ho2 hd2 hl2 hjk
     ·exact s5 j o1 d1 k o2 d2 hjm ho1 hd1 hl1 hkm ho2 hd2 hl2 hjk
 have hstart:I (Array.replicate l.toArray.size false) a w.drew:=by
  refine ⟨fun _ => 0,_,z0X _,rfl,rfl,⟨by simp,fun j oj _ hl=>(by rw [getD_replicate_false] at hl;cases hl),fun t _ ht=>getD_in (by simpa using ht) (getD_replicate_false _ _)⟩,fun _ _ _=>rfl,?_,?_,?_,?_⟩
  ·intro i o d _ _ _ _;rw [getD_replicate_false];simp
  ·intro i o d _ _ _;rw [getD_replicate_false];simp
  ·intro i o d _ _ _ hl;rw [getD_replicate_false] at hl;cases hl
  ·intro i o d j o' d' _ _ _ hl;rw [getD_replicate_false] at hl;cases hl
 refine wp_region_any hm ?_
 have hw0:({ w with drawn:=w.drawn+1 } : World)=w.drew:=rfl
 rw [hw0]
 refine z0l (n:=n) (g:=l.toArray.size-n) I (fun _ _ _ ⟨_,_,_,_,_,hinv,_⟩=>hinv) (fun listed inv h0=>z0R hn hdep htail inv h0) ?_ ?_ _ _ _ _ ?_ hstart
 ·-- a step
  intro listed a' w' i hI hi hr
  obtain ⟨_,o,ho,_⟩:=mem_ready.1 hr
  have hs:=sees hI hi hr ho
  have hI':=hI
  obtain ⟨β,q,hw,hdef,hsz,hinv,s1,s2,s3,s4,s5⟩:=hI'
  unfold wpOp
  rw [ho]
  by_cases him:i ∈ ms
  ·obtain ⟨d,hd,hdlt,hdq⟩:=hmkd' o (hmemm i o him ho)
   obtain ⟨hwant,hmakes⟩:=hFO o (hmemm i o him ho) d hd
   have hag : ∀ x ∈ o.looksAt l.toArray,slot a' x=slot A x:=fun x hx=>by rw [hs x hx,hAslot x]
   have hwant' : Region.wanted o (yielded l.toArray a'.tmps)=true:=by rw [z06 (hsz.trans hAs.symm) hag];exact hwant
   have hrun:(execOp a'.eval o).run P w' = .ok (.value (F d w'.heap.size)) (w'.alloc (O d)):=by
    rw [execOp_congr o (fun cs b=>hsel' i o cs b ho) (z0p hag),hw]
    exact hmakes q
   simp only [hwant',if_true]
   refine .inl ?_
   unfold Oper.wp
   rw [hrun]
   exact after hI hi hr ho hd hdlt (fun h=>absurd him h) (fun _=>⟨rfl,rfl⟩)
  ·have hmem:=hmemq i o hi him ho
   obtain ⟨d,hd,B,hBs,hop,hBl⟩:=htr o hmem
   have hdlt:d<a.tmps.size:=by
    have hk : ∀ (lq:List Oper) (bef:List Tmp),okQ l.toArray (dstsOf (qb l n ms)) a.tmps.size lq bef=true→o ∈ lq→d<a.tmps.size:=by
     intro lq
     induction lq with
     | nil=>intro _ _ h;cases h
     | cons o' r ih =>
      intro bef hb hmem'
      cases hd' : o'.dst with
      | none=>simp [okQ,hd'] at hb
      | some d' =>
       simp only [okQ,hd',Bool.and_eq_true,decide_eq_true_eq] at hb
       rcases List.mem_cons.1 hmem' with e|e
       ·subst e
        have:d' = d:=Option.some.inj (hd'.symm.trans hd)
        subst this;exact hb.1.1.1.1
       ·exact ih _ hb.2 e
    exact hk _ [] (by simpa using hokq) hmem
   have hag : ∀ x ∈ o.looksAt l.toArray,slot a' x=slot B x:=fun x hx=>by rw [hs x hx,hBl x hx];simp
   have hww:=z06 (o:=o) (hsz.trans hBs.symm) hag
   have hex:=execOp_congr o (fun cs b=>hsel' i o cs b ho) (z0p hag)
   unfold opAt at hop
   by_cases hwant:Region.wanted o (yielded l.toArray B.tmps)=true
   ·rw [if_pos hwant] at hop
    have hat:=hop q
    unfold gqAt at hat
    simp only [hww.trans hwant,if_true]
    refine .inl ?_
    unfold Oper.wp
    rw [hex,hw]
    generalize (execOp B.eval o).run P (gm w.drew q)=res at hat
    cases res with
    | halt x w1=>exact hat.elim
    | ok nx w1 =>
     cases nx <;> simp only [z4w] at hat <;> simp only [Oper.upon]
     case value u =>
      obtain ⟨rfl,rfl⟩:=hat
      exact after hI hi hr ho hd hdlt (fun _=>⟨rfl,by rw [hw];exact ⟨_,z0X _⟩⟩) (fun h=>absurd h him)
     case skip =>
      obtain ⟨rfl,e⟩:=hat
      exact after hI hi hr ho hd hdlt (fun _=>⟨e.symm,by rw [hw];exact ⟨_,z0X _⟩⟩) (fun h=>absurd h him)
     case enter f args =>
      obtain ⟨rfl,hc⟩:=hat
      refine hc.mono fun e w2 he=>?_
      obtain ⟨rfl,q2,rfl⟩:=he
      exact after hI hi hr ho hd hdlt (fun _=>⟨rfl,q2,by rw [hw]⟩) (fun h=>absurd h him)
   ·rw [if_neg hwant] at hop
    have hwant' : Region.wanted o (yielded l.toArray a'.tmps)=false:=by rw [hww];simpa using hwant
    simp only [hwant',Bool.false_eq_true,if_false]
    exact after hI hi hr ho hd hdlt (fun _=>⟨hop.symm,⟨_,z0X _⟩⟩) (fun h=>absurd h him)
 ·-- the tail
  intro listed a' w' ⟨β,q,hw,hdef,hsz,hinv,s1,s2,s3,s4,s5⟩ h0 f hf
  have hl:=z0v hinv h0
  have hgd : ∀ i,i<n→listed.getD i false=true:=by
   intro i hi
   rw [hl]
   have:i<l.length:=by have:=hn;simp at this;omega
   simp [qV,this,hi]
  have hact:a' = z1l (zR l ms) fs ((dstsOf (zR l ms)).map β) A:=by
   have hsh:=z10 (zR l ms) fs ((dstsOf (zR l ms)).map β) A
   refine z5o (hsz.trans (hAs.symm.trans hsh.1.symm)) (hdef.trans (hAd.symm.trans hsh.2.symm)) fun t=>?_
   rw [hput β A (fun d hd=>by
    obtain ⟨o,ho,hod⟩:=qo.1 hd
    obtain ⟨d',hd',hlt,_⟩:=hmkd' o ho
    have:d' = d:=Option.some.inj (hd'.symm.trans hod)
    subst this
    exact hAs.symm ▸ hlt) t]
   by_cases htm:t ∈ dstsOf (zR l ms)
   ·rw [if_pos htm]
    obtain ⟨o,ho,hod⟩:=qo.1 htm
    obtain ⟨i,him,hio⟩:=(qI (ops:=l.toArray)).1 (by simpa using ho)
    rw [s3 i o t him hio hod,if_pos (hgd i (hmsn' i him))]
   ·rw [if_neg htm,hAslot t]
    by_cases htq:t ∈ dstsOf (qb l n ms)
    ·rw [if_pos htq]
     obtain ⟨o,ho,hod⟩:=qo.1 htq
     obtain ⟨i,hi,him,hio⟩:=(z0C (ops:=l.toArray)).1 (by simpa using ho)
     rw [s2 i o t hi him hio hod,if_pos (hgd i hi)]
    ·rw [if_neg htq];exact s1 t htq htm
  have hheap:z3i fs ((dstsOf (zR l ms)).map β) w':=by
   refine z1Z (w:=w') (β := β) (O:=O) _ _ hmkdst hmake fun o ho d hd=>?_
   obtain ⟨i,him,hio⟩:=(qI (ops:=l.toArray)).1 (by simpa using ho)
   refine ⟨(s4 i o d him hio hd (hgd i (hmsn' i him))).2,fun g ob hg=>?_⟩
   exact z4C (hg ⟨0,#[]⟩) ((hFO o ho d hd).2 ⟨0,#[]⟩)
  have hbn:((dstsOf (zR l ms)).map β).Nodup:=by
   have key : ∀ d ∈ dstsOf (zR l ms),∀ d' ∈ dstsOf (zR l ms),d ≠ d' → β d ≠ β d':=by
    intro d hd d' hd' hne
    obtain ⟨o,ho,hod⟩:=qo.1 hd
    obtain ⟨o',ho',hod'⟩:=qo.1 hd'
    obtain ⟨i,him,hio⟩:=(qI (ops:=l.toArray)).1 (by simpa using ho)
    obtain ⟨j,hjm,hjo⟩:=(qI (ops:=l.toArray)).1 (by simpa using ho')
    refine s5 i o d j o' d' him hio hod (hgd i (hmsn' i him)) hjm hjo hod' (hgd j (hmsn' j hjm)) ?_
    intro e
    subst e
    have e1:o=o':=Option.some.inj (hio.symm.trans hjo)
    subst e1
    exact hne (Option.some.inj (hod.symm.trans hod'))
   have map_nodup : ∀ L:List Tmp,L.Nodup→(∀ d ∈ L,∀ d' ∈ L,d ≠ d' → β d ≠ β d')→(L.map β).Nodup:=by
    intro L
    induction L with
    | nil=>intro _ _;simp
    | cons x L ih =>
     intro hL hk
     obtain ⟨hx,hL'⟩:=List.nodup_cons.1 hL
     rw [List.map_cons,List.nodup_cons]
     refine ⟨fun hm=>?_,ih hL' (fun d hd d' hd'=>hk d (List.mem_cons.2 (.inr hd)) d' (List.mem_cons.2 (.inr hd')))⟩
     obtain ⟨y,hy,e⟩:=List.mem_map.1 hm
     exact hk y (List.mem_cons.2 (.inr hy)) x (List.mem_cons.2 (.inl rfl)) (fun e'=>hx (e' ▸ hy)) e
   exact map_nodup _ hnodup key
  have hwl:=hfin ((dstsOf (zR l ms)).map β) (by rw [List.length_map,z0o hmkdst]) hbn (fun b hb=>by
   obtain ⟨d,hd,rfl⟩:=List.mem_map.1 hb
   obtain ⟨o,ho,hod⟩:=qo.1 hd
   obtain ⟨i,him,hio⟩:=(qI (ops:=l.toArray)).1 (by simpa using ho)
   exact (s4 i o d him hio hod (hgd i (hmsn' i him))).1) q (by rw [← hw];exact hheap)
  rw [← hact,← hw] at hwl
  have hdl:(l.drop n).length=l.toArray.size-n:=by simp
  have:=wpAny_of_seq (md := .any) (Q':=Q) (l.drop n) n listed a' w' (fun j=>by simp [List.getElem?_drop]) (by rw [hdl,hl];exact hseq) hwl
  rw [hdl] at this
  have h2:=z0m _ (f-(l.toArray.size-n)) _ _ _ this
  rwa [show l.toArray.size-n+(f-(l.toArray.size-n))=f by omega] at h2
 ·-- the fuel
  have:qa (Array.replicate l.toArray.size false) n≤n:=by
   unfold qa
   exact Nat.le_trans (List.length_filter_le _ _) (by simp)
  omega
end Go.Proofs.YtbkkginjfnjffaaGreatDoor.Dm
namespace Go.Proofs.YtbkkginjfnjffaaGreatDoor
open Go.RowKit Go.Sort
theorem z4z (x:Int) (w:World):Calls Tryz.prog 59 #[.int .i64 x] w fun e w'=>e = .returned (.bool false)∧w' = w:=by
 have h:(x != x)=false:=by simp
 go_enter Tryz.func59,Tryz.ntmps59
 go_wp2
 go_ret
 exact ⟨rfl,rfl⟩
theorem z2J (x y:Int) (w:World):Calls Tryz.prog 41 #[.int .i64 x,.int .i64 y] w fun e w'=>e = .returned (.int .i64 (cmpI x y))∧w' = w:=by
 by_cases h1:x<y
 ·have he:=Lib.hid (show cmpI x y = -1 by simp [cmpI,h1])
  have hd:decide (x<y)=true:=by simpa using h1
  clear h1
  go_enter Tryz.func41,Tryz.ntmps41
  go_wp2_with (go_at_call 59;refine (z4z _ _).mono ?_;rintro e w' ⟨rfl,rfl⟩)
  go_ret
  exact ⟨by rw [he.out];rfl,rfl⟩
 ·have hd1:decide (x<y)=false:=by simpa using h1
  by_cases h2:y<x
  ·have he:=Lib.hid (show cmpI x y=1 by simp [cmpI,h1,h2])
   have hd:decide (y<x)=true:=by simpa using h2
   clear h1 h2
   go_enter Tryz.func41,Tryz.ntmps41
   go_wp2_with (go_at_call 59;refine (z4z _ _).mono ?_;rintro e w' ⟨rfl,rfl⟩)
   go_ret
   exact ⟨by rw [he.out];rfl,rfl⟩
  ·have he:=Lib.hid (show cmpI x y=0 by simp [cmpI,h1,h2])
   have hd:decide (y<x)=false:=by simpa using h2
   clear h1 h2
   go_enter Tryz.func41,Tryz.ntmps41
   go_wp2_with (go_at_call 59;refine (z4z _ _).mono ?_;rintro e w' ⟨rfl,rfl⟩)
   go_ret
   exact ⟨by rw [he.out];rfl,rfl⟩
theorem or2_any (a b:Int) (g off cap:Nat) (w:World) (h0:w.cell? ⟨g,off,none⟩=some (.int .i64 a)) (h1:w.cell? ⟨g,off+1,none⟩=some (.int .i64 b)) :
  Calls Tryz.prog 20 #[.slice (some ⟨g,off,none⟩) 2 cap] w fun e w'=>e = .returned (.int .i64 (orL [a,b]))∧w' = w:=by
 have o0:Old g w:=Old.of_cell h0
 by_cases hz0:a=0
 ·subst hz0
  by_cases hz1:b=0
  ·subst hz1
   have he:=Lib.hid (show orL [0,0]=0 by simp [orL])
   go_enter Tryz.func20,Tryz.ntmps20
   go_wp2
   go_loopw [8] (fun i wr => ∃ k:Nat,k≤2∧i = .int .i64 k∧wr=w) (fun i _ => 2-(intOf i).toNat)
   case atStart=>exact ⟨0,by omega,rfl,rfl⟩
   case round =>
    obtain ⟨k,hk,rfl,rfl⟩:=hrel
    match k,hk with
    | 0,_ =>
     go_wp2
     go_roundw
     case rel=>exact ⟨1,by omega,rfl,by first|rfl|trivial⟩
     case measure=>simp [intOf]
    | 1,_ =>
     go_wp2
     go_roundw
     case rel=>exact ⟨2,by omega,rfl,by first|rfl|trivial⟩
     case measure=>simp [intOf]
    | 2,_ =>
     go_wp2
     go_ret
     exact ⟨by rw [he.out];rfl,rfl⟩
  ·have he:=Lib.hid (show orL [0,b]=b by simp [orL,hz1])
   have hn:(b != 0)=true:=by simpa using hz1
   clear hz1
   go_enter Tryz.func20,Tryz.ntmps20
   go_wp2
   go_loopw [8] (fun i wr => ∃ k:Nat,k≤1∧i = .int .i64 k∧wr=w) (fun i _ => 2-(intOf i).toNat)
   case atStart=>exact ⟨0,by omega,rfl,rfl⟩
   case round =>
    obtain ⟨k,hk,rfl,rfl⟩:=hrel
    match k,hk with
    | 0,_ =>
     go_wp2
     go_roundw
     case rel=>exact ⟨1,by omega,rfl,by first|rfl|trivial⟩
     case measure=>simp [intOf]
    | 1,_ =>
     go_wp2
     go_ret
     exact ⟨by rw [he.out];rfl,rfl⟩
 ·have he:=Lib.hid (show orL [a,b]=a by simp [orL,hz0])
  have hn:(a != 0)=true:=by simpa using hz0
  clear hz0
  go_enter Tryz.func20,Tryz.ntmps20
  go_wp2
  go_loopw [8] (fun i wr => ∃ k:Nat,k≤0∧i = .int .i64 k∧wr=w) (fun i _ => 2-(intOf i).toNat)
  case atStart=>exact ⟨0,by omega,rfl,rfl⟩
  case round =>
   obtain ⟨k,hk,rfl,rfl⟩:=hrel
   match k,hk with
   | 0,_ =>
    go_wp2
    go_ret
    exact ⟨by rw [he.out];rfl,rfl⟩
theorem or3_any (a b c:Int) (g off cap:Nat) (w:World) (h0:w.cell? ⟨g,off,none⟩=some (.int .i64 a)) (h1:w.cell? ⟨g,off+1,none⟩=some (.int .i64 b)) (h2:w.cell? ⟨g,off+2,none⟩=some (.int .i64 c)) :
  Calls Tryz.prog 20 #[.slice (some ⟨g,off,none⟩) 3 cap] w fun e w'=>e = .returned (.int .i64 (orL [a,b,c]))∧w' = w:=by
 have o0:Old g w:=Old.of_cell h0
 by_cases hz0:a=0
 ·subst hz0
  by_cases hz1:b=0
  ·subst hz1
   by_cases hz2:c=0
   ·subst hz2
    have he:=Lib.hid (show orL [0,0,0]=0 by simp [orL])
    go_enter Tryz.func20,Tryz.ntmps20
    go_wp2
    go_loopw [8] (fun i wr => ∃ k:Nat,k≤3∧i = .int .i64 k∧wr=w) (fun i _ => 3-(intOf i).toNat)
    case atStart=>exact ⟨0,by omega,rfl,rfl⟩
    case round =>
     obtain ⟨k,hk,rfl,rfl⟩:=hrel
     match k,hk with
     | 0,_ =>
      go_wp2
      go_roundw
      case rel=>exact ⟨1,by omega,rfl,by first|rfl|trivial⟩
      case measure=>simp [intOf]
     | 1,_ =>
      go_wp2
      go_roundw
      case rel=>exact ⟨2,by omega,rfl,by first|rfl|trivial⟩
      case measure=>simp [intOf]
     | 2,_ =>
      go_wp2
      go_roundw
      case rel=>exact ⟨3,by omega,rfl,by first|rfl|trivial⟩
      case measure=>simp [intOf]
     | 3,_ =>
      go_wp2
      go_ret
      exact ⟨by rw [he.out];rfl,rfl⟩
   ·have he:=Lib.hid (show orL [0,0,c]=c by simp [orL,hz2])
    have hn:(c != 0)=true:=by simpa using hz2
    clear hz2
    go_enter Tryz.func20,Tryz.ntmps20
    go_wp2
    go_loopw [8] (fun i wr => ∃ k:Nat,k≤2∧i = .int .i64 k∧wr=w) (fun i _ => 3-(intOf i).toNat)
    case atStart=>exact ⟨0,by omega,rfl,rfl⟩
    case round =>
     obtain ⟨k,hk,rfl,rfl⟩:=hrel
     match k,hk with
     | 0,_ =>
      go_wp2
      go_roundw
      case rel=>exact ⟨1,by omega,rfl,by first|rfl|trivial⟩
      case measure=>simp [intOf]
     | 1,_ =>
      go_wp2
      go_roundw
      case rel=>exact ⟨2,by omega,rfl,by first|rfl|trivial⟩
      case measure=>simp [intOf]
     | 2,_ =>
      go_wp2
      go_ret
      exact ⟨by rw [he.out];rfl,rfl⟩
  ·have he:=Lib.hid (show orL [0,b,c]=b by simp [orL,hz1])
   have hn:(b != 0)=true:=by simpa using hz1
   clear hz1
   go_enter Tryz.func20,Tryz.ntmps20
   go_wp2
   go_loopw [8] (fun i wr => ∃ k:Nat,k≤1∧i = .int .i64 k∧wr=w) (fun i _ => 3-(intOf i).toNat)
   case atStart=>exact ⟨0,by omega,rfl,rfl⟩
   case round =>
    obtain ⟨k,hk,rfl,rfl⟩:=hrel
    match k,hk with
    | 0,_ =>
     go_wp2
     go_roundw
     case rel=>exact ⟨1,by omega,rfl,by first|rfl|trivial⟩
     case measure=>simp [intOf]
    | 1,_ =>
     go_wp2
     go_ret
     exact ⟨by rw [he.out];rfl,rfl⟩
 ·have he:=Lib.hid (show orL [a,b,c]=a by simp [orL,hz0])
  have hn:(a != 0)=true:=by simpa using hz0
  clear hz0
  go_enter Tryz.func20,Tryz.ntmps20
  go_wp2
  go_loopw [8] (fun i wr => ∃ k:Nat,k≤0∧i = .int .i64 k∧wr=w) (fun i _ => 3-(intOf i).toNat)
  case atStart=>exact ⟨0,by omega,rfl,rfl⟩
  case round =>
   obtain ⟨k,hk,rfl,rfl⟩:=hrel
   match k,hk with
   | 0,_ =>
    go_wp2
    go_ret
    exact ⟨by rw [he.out];rfl,rfl⟩
theorem z7O (W:World) (A B:Obj) (q:Regrown):Dm.gm ((W.alloc A).alloc B).drew q=grow (W.drewN (q.d+1)) (#[A,B]++q.os):=by
 have h1:(W.heap.push A).push B++q.os=W.heap++(#[A,B]++q.os):=by
  rw [← Array.append_assoc];rfl
 have h2:W.drawn+1+q.d=W.drawn+(q.d+1):=by omega
 show ({ W with heap:=(W.heap.push A).push B++q.os,drawn:=W.drawn+1+q.d } : World) = { W with heap:=W.heap++(#[A,B]++q.os),drawn:=W.drawn+(q.d+1) }
 rw [h1,h2]
def cmpT (x1 x2 x3 y1 y2 y3:Int):Int:=orL [cmpI x1 y1,cmpI x2 y2,cmpI x3 y3]
theorem z3J (x1 x2 x3 y1 y2 y3:Int) (W:World):Calls Tryz.prog 16 #[.agg #[.int .i64 x1,.int .i64 x2,.int .i64 x3],.agg #[.int .i64 y1,.int .i64 y2,.int .i64 y3]] W fun e w'=>e = .returned (.int .i64 (cmpT x1 x2 x3 y1 y2 y3)) ∧ ∃ q os',w' = grow (W.drewN q) os':=by
 have he0 : ∀ a b c,cmpI x1 y1=a→cmpI x2 y2=b→cmpI x3 y3=c→cmpT x1 x2 x3 y1 y2 y3=orL [a,b,c]:=by rintro _ _ _ rfl rfl rfl;rfl
 have hc1:=Lib.hid (show ∀ w,Calls Tryz.prog 41 #[.int .i64 x1,.int .i64 y1] w (Dm.z4j (.int .i64 (cmpI x1 y1)) w) from fun w=>(z2J x1 y1 w).mono fun e w' h=>⟨h.1,⟨0,#[]⟩,h.2.trans (Dm.z0X w)⟩)
 have hc2:=Lib.hid (show ∀ w,Calls Tryz.prog 41 #[.int .i64 x2,.int .i64 y2] w (Dm.z4j (.int .i64 (cmpI x2 y2)) w) from fun w=>(z2J x2 y2 w).mono fun e w' h=>⟨h.1,⟨0,#[]⟩,h.2.trans (Dm.z0X w)⟩)
 have hc3:=Lib.hid (show ∀ w,Calls Tryz.prog 41 #[.int .i64 x3,.int .i64 y3] w (Dm.z4j (.int .i64 (cmpI x3 y3)) w) from fun w=>(z2J x3 y3 w).mono fun e w' h=>⟨h.1,⟨0,#[]⟩,h.2.trans (Dm.z0X w)⟩)
 generalize ha:cmpI x1 y1=a at *
 generalize hb:cmpI x2 y2=b at *
 generalize hc:cmpI x3 y3=c at *
 have he:=Lib.hid (he0 a b c rfl rfl rfl)
 clear he0 ha hb hc
 go_enter Tryz.func16,Tryz.ntmps16
 go_wp2
 rename_i hK0
 refine Dm.z2n 16 [15] (by kernel_rfl) (by kernel_rfl) (by simp [Dm.qb,List.range,List.range.loop];rfl) (by simp [Dm.zR];rfl) (by simp;rfl) ?_
 repeat (refine Dm.z6c (fun K hK=>?_);go_simp;first|(refine hK _ ?_;clear hK K)|(apply Exists.intro;refine ⟨fun _=>?_,hK _ ?_⟩;(first|with_reducible exact hc1.out _|with_reducible exact hc2.out _|with_reducible exact hc3.out _);clear hK K))
 refine Dm.z7z ?_
 refine ⟨[(fun b' => .slice (some ⟨b',0,none⟩) 3 3,.cells #[.int .i64 a,.int .i64 b,.int .i64 c] 3)],⟨rfl,fun p=>?_,trivial⟩,?_⟩
 ·simp [Dm.makes,go_sem] <;> rfl
 intro bs hl hnd hb q hh
 match bs,hl with
 | [b8],_ =>
  obtain ⟨hh8,_⟩:=hh
  generalize hA:Dm.z1l _ _ _ _=AA
  simp [Dm.z1l,Act.put] at hA
  subst hA
  have c0:=z05 hh8 0
  have c1:=z05 hh8 1
  have c2:=z05 hh8 2
  simp at c0 c1 c2
  go_wp2_with (go_at_call 20;refine (or3_any a b c b8 0 3 _ c0 c1 c2).mono ?_;rintro e w' ⟨rfl,rfl⟩)
  go_ret
  exact ⟨by rw [he.out];rfl,q.d+1,_,z7O _ _ _ q⟩
def cmp6 (x1 x2 x3 x4 x5 x6 y1 y2 y3 y4 y5 y6:Int):Int:=orL [cmpT x1 x2 x3 y1 y2 y3,cmpT x4 x5 x6 y4 y5 y6]
theorem z8H (x1 x2 x3 x4 x5 x6 y1 y2 y3 y4 y5 y6:Int) (W:World):Calls Tryz.prog 19 #[.agg #[.int .i64 x1,.int .i64 x2,.int .i64 x3,.int .i64 x4,.int .i64 x5,.int .i64 x6],.agg #[.int .i64 y1,.int .i64 y2,.int .i64 y3,.int .i64 y4,.int .i64 y5,.int .i64 y6]] W fun e w'=>e = .returned (.int .i64 (cmp6 x1 x2 x3 x4 x5 x6 y1 y2 y3 y4 y5 y6)) ∧ ∃ q os',w' = grow (W.drewN q) os':=by
 have he0 : ∀ a b,cmpT x1 x2 x3 y1 y2 y3=a→cmpT x4 x5 x6 y4 y5 y6=b→cmp6 x1 x2 x3 x4 x5 x6 y1 y2 y3 y4 y5 y6=orL [a,b]:=by rintro _ _ rfl rfl;rfl
 have hg : ∀ (v:Value) (w:World) (e:Ending) (w' : World),(e = .returned v ∧ ∃ q os',w' = grow (w.drewN q) os')→Dm.z4j v w e w':=by
  rintro v w e w' ⟨rfl,q,os',rfl⟩
  exact ⟨rfl,⟨q,os'⟩,rfl⟩
 have hc1:=Lib.hid (show ∀ w,Calls Tryz.prog 16 #[.agg #[.int .i64 x1,.int .i64 x2,.int .i64 x3],.agg #[.int .i64 y1,.int .i64 y2,.int .i64 y3]] w (Dm.z4j (.int .i64 (cmpT x1 x2 x3 y1 y2 y3)) w) from fun w=>(z3J x1 x2 x3 y1 y2 y3 w).mono (hg _ w))
 have hc2:=Lib.hid (show ∀ w,Calls Tryz.prog 16 #[.agg #[.int .i64 x4,.int .i64 x5,.int .i64 x6],.agg #[.int .i64 y4,.int .i64 y5,.int .i64 y6]] w (Dm.z4j (.int .i64 (cmpT x4 x5 x6 y4 y5 y6)) w) from fun w=>(z3J x4 x5 x6 y4 y5 y6 w).mono (hg _ w))
 generalize ha:cmpT x1 x2 x3 y1 y2 y3=a at *
 generalize hb:cmpT x4 x5 x6 y4 y5 y6=b at *
 have he:=Lib.hid (he0 a b rfl rfl)
 clear he0 ha hb hg
 go_enter Tryz.func19,Tryz.ntmps19
 go_wp2
 rename_i hK0
 refine Dm.z2n 11 [10] (by kernel_rfl) (by kernel_rfl) (by simp [Dm.qb,List.range,List.range.loop];rfl) (by simp [Dm.zR];rfl) (by simp;rfl) ?_
 repeat (refine Dm.z6c (fun K hK=>?_);go_simp;first|(refine hK _ ?_;clear hK K)|(apply Exists.intro;refine ⟨fun _=>?_,hK _ ?_⟩;(first|with_reducible exact hc1.out _|with_reducible exact hc2.out _);clear hK K))
 refine Dm.z7z ?_
 refine ⟨[(fun b' => .slice (some ⟨b',0,none⟩) 2 2,.cells #[.int .i64 a,.int .i64 b] 3)],⟨rfl,fun p=>?_,trivial⟩,?_⟩
 ·simp [Dm.makes,go_sem] <;> rfl
 intro bs hl hnd hb q hh
 match bs,hl with
 | [b8],_ =>
  obtain ⟨hh8,_⟩:=hh
  generalize hA:Dm.z1l _ _ _ _=AA
  simp [Dm.z1l,Act.put] at hA
  subst hA
  have c0:=z05 hh8 0
  have c1:=z05 hh8 1
  simp at c0 c1
  go_wp2_with (go_at_call 20;refine (or2_any a b b8 0 2 _ c0 c1).mono ?_;rintro e w' ⟨rfl,rfl⟩)
  go_ret
  exact ⟨by rw [he.out];rfl,q.d+1,_,z7O _ _ _ q⟩
end Go.Proofs.YtbkkginjfnjffaaGreatDoor
namespace Go.Proofs
open Go.Shelf Go.RowKit Go.Lib Go.Sort
def YtbkkginjfnjffaaGreatDoor.sortP_ren:Go.Shelf.Ren:=⟨fun | 6 => 43 | 15 => 62 | 14 => 61 | 28 => 83 | 29 => 84 | 20 => 75 | 21 => 76 | 22 => 77 | 23 => 78 | 24 => 79 | 25 => 80 | 26 => 81 | 27 => 82 | 46 => 97 | 47 => 98 | 48 => 99 | 49 => 100 | 50 => 101 | 57 => 106|n=>n,fun | 22 => 75 | 24 => 70 | 25 => 81 | 3 => 3 | 39 => 141 | 0 => 0 | 53 => 156 | 55 => 158 | 4 => 4 | 46 => 150 | 45 => 149 | 50 => 106 | 5 => 5 | 9 => 9 | 66 => 178 | 70 => 182 | 76 => 189 | 77 => 119|n=>n,fun|n=>n⟩
theorem YtbkkginjfnjffaaGreatDoor.sortP:Go.Proofs.SlLaysF0.n6 Tryz.prog YtbkkginjfnjffaaGreatDoor.sortP_ren := {
 mixed:=by kernel_rfl
 f6:=⟨Tryz.f43.name,by decide,Tryz.func43.trans (congrArg some (by kernel_rfl))⟩
 f14:=⟨Tryz.f61.name,by decide,Tryz.func61.trans (congrArg some (by kernel_rfl))⟩
 f15:=Tryz.func62.trans (congrArg some (by kernel_rfl))
 f20:=⟨Tryz.f75.name,by decide,Tryz.func75.trans (congrArg some (by kernel_rfl))⟩
 f21:=⟨Tryz.f76.name,by decide,Tryz.func76.trans (congrArg some (by kernel_rfl))⟩
 f22:=⟨Tryz.f77.name,by decide,Tryz.func77.trans (congrArg some (by kernel_rfl))⟩
 f23:=⟨Tryz.f78.name,by decide,Tryz.func78.trans (congrArg some (by kernel_rfl))⟩
 f24:=⟨Tryz.f79.name,by decide,Tryz.func79.trans (congrArg some (by kernel_rfl))⟩
 f25:=⟨Tryz.f80.name,by decide,Tryz.func80.trans (congrArg some (by kernel_rfl))⟩
 f26:=⟨Tryz.f81.name,by decide,Tryz.func81.trans (congrArg some (by kernel_rfl))⟩
 f27:=⟨Tryz.f82.name,by decide,Tryz.func82.trans (congrArg some (by kernel_rfl))⟩
 f28:=Tryz.func83.trans (congrArg some (by kernel_rfl))
 f29:=Tryz.func84.trans (congrArg some (by kernel_rfl))
 f46:=⟨Tryz.f97.name,by decide,Tryz.func97.trans (congrArg some (by kernel_rfl))⟩
 f47:=Tryz.func98.trans (congrArg some (by kernel_rfl))
 f48:=Tryz.func99.trans (congrArg some (by kernel_rfl))
 f49:=⟨Tryz.f100.name,by decide,Tryz.func100.trans (congrArg some (by kernel_rfl))⟩
 f50:=⟨Tryz.f101.name,by decide,Tryz.func101.trans (congrArg some (by kernel_rfl))⟩
 f57:=⟨Tryz.f106.name,by decide,Tryz.func106.trans (congrArg some (by kernel_rfl))⟩
 t0:=Tryz.underlying0
 a0:=Tryz.isAgg0
 z0:=Tryz.sizeOf0
 v0:=Tryz.zeroValue0
 t3:=Tryz.underlying3
 a3:=Tryz.isAgg3
 z3:=Tryz.sizeOf3
 v3:=Tryz.zeroValue3
 t4:=Tryz.underlying4
 a4:=Tryz.isAgg4
 z4:=Tryz.sizeOf4
 v4:=Tryz.zeroValue4
 t5:=Tryz.underlying5
 a5:=Tryz.isAgg5
 z5:=Tryz.sizeOf5
 v5:=Tryz.zeroValue5
 t9:=Tryz.underlying9
 a9:=Tryz.isAgg9
 z9:=Tryz.sizeOf9
 v9:=Tryz.zeroValue9
 t22:=Tryz.underlying75
 a22:=Tryz.isAgg75
 z22:=Tryz.sizeOf75
 v22:=Tryz.zeroValue75
 t25:=Tryz.underlying81
 a25:=Tryz.isAgg81
 z25:=Tryz.sizeOf81
 v25:=Tryz.zeroValue81
 t39:=Tryz.underlying141
 a39:=Tryz.isAgg141
 z39:=Tryz.sizeOf141
 v39:=Tryz.zeroValue141
 t45:=Tryz.underlying149
 a45:=Tryz.isAgg149
 z45:=Tryz.sizeOf149
 v45:=Tryz.zeroValue149
 t46:=Tryz.underlying150
 a46:=Tryz.isAgg150
 z46:=Tryz.sizeOf150
 v46:=Tryz.zeroValue150
 t50:=Tryz.underlying106
 a50:=Tryz.isAgg106
 z50:=Tryz.sizeOf106
 v50:=Tryz.zeroValue106
 t53:=Tryz.underlying156
 a53:=Tryz.isAgg156
 z53:=Tryz.sizeOf156
 v53:=Tryz.zeroValue156
 t55:=Tryz.underlying158
 a55:=Tryz.isAgg158
 z55:=Tryz.sizeOf158
 v55:=Tryz.zeroValue158
 t66:=Tryz.underlying178
 a66:=Tryz.isAgg178
 z66:=Tryz.sizeOf178
 v66:=Tryz.zeroValue178
 t70:=Tryz.underlying182
 a70:=Tryz.isAgg182
 z70:=Tryz.sizeOf182
 v70:=Tryz.zeroValue182
 t76:=Tryz.underlying189
 a76:=Tryz.isAgg189
 z76:=Tryz.sizeOf189
 v76:=Tryz.zeroValue189
 t77:=Tryz.underlying119
 a77:=Tryz.isAgg119
 z77:=Tryz.sizeOf119
 v77:=Tryz.zeroValue119 }
end Go.Proofs
namespace Go.Proofs.YtbkkginjfnjffaaGreatDoor
open Go.RowKit Go.Sort Go.Maps
noncomputable def hpM (bm bp nb:Nat) (m:List Int→Option Value):Hp := [(6,prM (some bp) nb m),(7,.boxP (some bm) mpT [.own 6])]
theorem z6e (bm bp nb:Nat) (m:List Int→Option Value) (hnb:nb≤1000000) :
  MemC Tryz.prog 60 8 (hpM bm bp nb m) [.p (.val (.slice none 0 0)),.fn (.func 44) [.ptr 7 0]] fun hp' r=>(∃ ks,hp' = (0,.row 70 6 (ks.map keyC)) :: hpM bm bp nb m∧KeysIn m ks∧ks.length≤nb)∧r = .own 0:=by
 have hM:Mok (prM (some bp) nb m):=mok_map _ _ _
 simp only [hpM]
 refine MemC.of Tryz.func60 rfl 13 rfl (by decide) ?_;simp only [z08,frOf]
 repeat' (first|refine T.zk fun K hK=>?_|apply T.block|(refine T.reg (by kernel_rfl) fun K' hK'=>?_;simp only [bz];(with_reducible repeat' (first|(apply WL.fin;apply hK';clear hK' K')|(refine WL.step fun K2 hK2=>?_;simp only [simprocAttr,implies_true,amz,zf,tys];repeat' (first|(apply hK2;clear hK2 K2)|apply And.intro|intro hb)))))|apply T.skip|apply T.exit|refine T.zh rfl ?_|refine T.zg rfl ?_|refine T.cond rfl (fun hc=>?_) (fun hc=>?_)|apply T.ret|simp only [ze,z8,reduceIte,Nat.reduceEqDiff]|((repeat ((fail_if_success apply hK);clear hK K));apply hK;clear hK K))
 refine T.weak (zi.newrowB _ 8 0 70 6 _ _ _ rfl rfl) ?_;simp only [zO,yl,reduceIte,Nat.reduceEqDiff,List.set_cons_succ,List.set_cons_zero,Nat.reduceAdd]
 refine T.weak (zi.ren _ 8 5) ?_;simp only [ASt.ren,AV.zZ,AV.zG,AV.qd,AV.qw,AV.zW,AV.zF,AV.zA,AV.qc,AV.qO,AV.zD,AV.qx,AO.qD,AO.qG,AO.qE,AO.qF,yl,List.filter_cons,List.filter_nil,zq,qp,reduceIte,Nat.reduceEqDiff,Nat.reduceLT,Nat.reduceBneDiff,bne_self_eq_false,Bool.and_true,Bool.and_false,Bool.true_and,Bool.false_and,Bool.and_self,Bool.false_eq_true,ne_eq,not_false_eq_true,not_true_eq_false,and_self,and_true,true_and,and_false,bne_self_eq_false]
 refine T.weak (zi.ren _ 9 0) ?_;simp only [ASt.ren,AV.zZ,AV.zG,AV.qd,AV.qw,AV.zW,AV.zF,AV.zA,AV.qc,AV.qO,AV.zD,AV.qx,AO.qD,AO.qG,AO.qE,AO.qF,yl,List.filter_cons,List.filter_nil,zq,qp,reduceIte,Nat.reduceEqDiff,Nat.reduceLT,Nat.reduceBneDiff,bne_self_eq_false,Bool.and_true,Bool.and_false,Bool.true_and,Bool.false_and,Bool.and_self,Bool.false_eq_true,ne_eq,not_false_eq_true,not_true_eq_false,and_self,and_true,true_and,and_false,bne_self_eq_false]
 refine T.pin 5 _ rfl fun bb=>?_;simp only [zO,AO.pin,yl,reduceIte,Nat.reduceEqDiff]
 refine T.weak (s':=⟨[(2,.ptr 5 0),(6,.fn (.func 44) [.ptr 7 0])],hpC bb bm (prM (some bp) nb m) [],13,1999999⟩) ?_ ?_
 ·refine zi.frm _ _ _ _ (fun t=>?_) (by simp only [wks,reduceIte,Nat.reduceEqDiff,implies_true,and_self,AV.qm]) (by simp only [wks,AV.okB,Nat.reduceLT,decide_true,List.all_cons,List.all_nil,Bool.and_self,AV.qm]) ?_
  ·simp only [hpC,List.map_nil,zq,qp]
   repeat' split
   all_goals first|rfl|omega
  ·exact fun t o h=>(z2C bb bm hM [] 1999999 (by omega)).at' h
 refine T.z5R 44 [.ptr 7 0] [(2,.ptr 5 0)] rfl (Ent.of Tryz.func44 (by kernel_rfl) rfl) (by simp [z5b,zq]) fun lr sp hsn hsp hsa hsb=>?_
 have hyld : ∀ mo acc k,Mok mo→acc.length≤nb→k.length=6→YldC Tryz.prog lr 2000000 (hpY lr sp bb bm mo acc) [keyA k] fun hp' r=>hp' = hpY lr sp bb bm mo (acc ++ [k])∧r = .bool true:=by
  intro mo acc k hmo hal hk6
  obtain ⟨k1,k2,k3,k4,k5,k6,rfl⟩:=z1v hk6
  refine YldC.of 1999999 [5] (fun hp3=>hp3=hpC bb bm mo (acc ++ [[k1,k2,k3,k4,k5,k6]])) (sp:=sp) (fr := [(2,.ptr 5 0)]) rfl (by rw [hsp];rfl) (by rw [hsp,hsn];simp) (by simp [AV.z0h]) ?_ ?_ (by simp [keyA,AV.zT,AV.okB])
  ·have hfil:(hpY lr sp bb bm mo acc).filter (fun p=>p.1 != 1999999)=hpC bb bm mo acc:=by
    rw [hpY,List.filter_cons,if_neg (by simp)]
    exact List.filter_eq_self.2 fun p hp=>by have:=((z2C bb bm hmo acc 1999999 (by omega)).ok p hp).1;simp;omega
   rw [hsa,hsb,hsp,hsn,hfil]
   have hms:=hmo.2
   have hal2:(acc.map keyC).length=acc.length:=by simp
   have hm0:(1≤maxLen)=True:=eq_true (by unfold maxLen;omega)
   have hm1:(acc.length+1≤maxLen)=True:=eq_true (by unfold maxLen;omega)
   have hm2:((acc.length+1)*48≤140737488355328)=True:=eq_true (by omega)
   have hsn2:acc.map keyC ++ [[PV.val (.int .i64 k1),.val (.int .i64 k2),.val (.int .i64 k3),.val (.int .i64 k4),.val (.int .i64 k5),.val (.int .i64 k6)]]=(acc ++ [[k1,k2,k3,k4,k5,k6]]).map keyC:=by simp [keyC]
   simp only [z6m,keyA,yl,hpC]
   repeat' (first|refine T.zk fun K hK=>?_|apply T.block|(refine T.reg (by kernel_rfl) fun K' hK'=>?_;simp only [bz];(with_reducible repeat' (first|(apply WL.fin;apply hK';clear hK' K')|(refine WL.step fun K2 hK2=>?_;simp only [simprocAttr,implies_true,amz,zf,tys,hal2,hm0,hm1,hm2,hsn2,hms,List.length_cons,List.length_nil,Nat.zero_add];repeat' (first|(apply hK2;clear hK2 K2)|apply And.intro|intro hb)))))|apply T.skip|apply T.exit|refine T.zh rfl ?_|refine T.zg rfl ?_|refine T.cond rfl (fun hc=>?_) (fun hc=>?_)|apply T.ret|simp only [ze,z8,reduceIte,Nat.reduceEqDiff]|((repeat ((fail_if_success apply hK);clear hK K));apply hK;clear hK K))
   refine ⟨rfl,⟨[],hpC bb bm mo (acc ++ [[k1,k2,k3,k4,k5,k6]]),13,2000000⟩,zi.subs _ _ _ _ (fun t o ho=>?_) (by simp) (by simp) (fun t o h=>(z2C bb bm hmo _ 2000000 (by omega)).at' h),rfl,(z2C bb bm hmo _ 1999999 (by omega)).none (Nat.le_refl _),rfl⟩
   exact (zo (Nat.ne_of_lt ((z2C bb bm hmo _ 2000000 (by omega)).at' ho).1)).trans ho
  ·rintro hp3 rfl
   refine ⟨?_,?_,?_,rfl⟩
   ·intro t ht
    rw [List.mem_singleton.1 ht]
    simp [Kept,hpY,hpC,zq,AO.z2p]
   ·exact fun p hp=>AO.z1g .zy (Nat.le_refl _) ((z2C bb bm hmo _ 1999999 (by omega)).ok p hp).2
   ·rfl
 have hmem:=keys1_ok lr sp bb bm bp nb m hyld
 have hH:=hpY_ok lr sp bb bm hM []
 refine ⟨2000000,hpY lr sp bb bm (prM (some bp) nb m) [],_,[5,6,7],hmem,?_,by simp [AV.okB,AV.qm],?_⟩
 ·have he:ASt.hp (ASt.add ⟨[(2,.ptr 5 0),(6,.fn (.func 44) [.ptr 7 0])],hpC bb bm (prM (some bp) nb m) [],13,1999999⟩ (.lrec lr sp [(2,.ptr 5 0)]))=hpY lr sp bb bm (prM (some bp) nb m) []:=rfl
  refine ⟨Nat.le_refl _,fun p hp=>⟨?_,hH.ok p hp⟩,fun p hp _=>?_⟩
  ·rw [he];exact hH.one p hp
  ·rw [he] at hp;rw [hH.one p hp];rfl
 rintro hp' r ⟨⟨ks,rfl,hks,hkl⟩,rfl⟩
 refine ⟨fun t ht _=>?_,⟨_,rfl⟩,fun ob=>?_⟩
 ·simp only [List.mem_cons,List.not_mem_nil,or_false] at ht
  rcases ht with rfl|rfl|rfl <;> simp [Kept,hpY,hpC,zq,AO.handle]
 have hfl:List.filter (fun p=>decide (2000000≤p.1)) (hpY lr sp bb bm (prM (some bp) nb m) []) = []:=hH.le
 have hadd:(ASt.add ⟨[(2,.ptr 5 0),(6,.fn (.func 44) [.ptr 7 0])],hpC bb bm (prM (some bp) nb m) [],13,1999999⟩ (.lrec lr sp [(2,.ptr 5 0)]))=⟨[(2,.ptr 5 0),(6,.fn (.func 44) [.ptr 7 0])],hpY lr sp bb bm (prM (some bp) nb m) [],13,2000000⟩:=rfl
 rw [hadd]
 simp only [ASt.qh,hfl,List.map_nil,List.append_nil,List.map_cons,zO,hpY,hpC,AV.z1c,AV.z0h,AV.z2c,List.mem_cons,List.not_mem_nil,or_false,or_true,true_or,reduceIte,Nat.reduceEqDiff,Nat.reduceLeDiff,false_or]
 (try simp only [ze,z8,reduceIte,Nat.reduceEqDiff]);(try ((repeat ((fail_if_success apply hK);clear hK K));apply hK;clear hK K))
 refine T.weak (s':=⟨[(2,.ptr 5 0)],hpC bb bm (prM (some bp) nb m) ks,13,8⟩) (zi.subs _ _ _ _ (fun t o ho=>?_) (by simp only [wks,reduceIte,Nat.reduceEqDiff,implies_true,and_self]) (by simp only [wks,AV.okB,Nat.reduceLT,decide_true]) (fun t o h=>(z2C bb bm hM ks 8 (by omega)).at' h)) ?_
 ·exact (zo (by have:=((z2C bb bm hM ks 8 (by omega)).at' ho).1;omega)).trans ho
 simp only [hpC]
 repeat' (first|refine T.zk fun K hK=>?_|apply T.block|(refine T.reg (by kernel_rfl) fun K' hK'=>?_;simp only [bz];(with_reducible repeat' (first|(apply WL.fin;apply hK';clear hK' K')|(refine WL.step fun K2 hK2=>?_;simp only [simprocAttr,implies_true,amz,zf,tys];repeat' (first|(apply hK2;clear hK2 K2)|apply And.intro|intro hb)))))|apply T.skip|apply T.exit|refine T.zh rfl ?_|refine T.zg rfl ?_|refine T.cond rfl (fun hc=>?_) (fun hc=>?_)|apply T.ret|simp only [ze,z8,reduceIte,Nat.reduceEqDiff]|((repeat ((fail_if_success apply hK);clear hK K));apply hK;clear hK K))
 refine FinM.ret (s':=⟨[(4,.own 0)],(0,.row 70 6 (ks.map keyC)) :: hpM bm bp nb m,13,8⟩) (r := .own 0) (.inr rfl) Tryz.results60 (by refine zi.of' rfl ?_;simp only [wks,reduceIte,Nat.reduceEqDiff,ASt.okB,AV.okB,Nat.reduceLT,implies_true,hpM]) rfl ?_ ⟨⟨ks,rfl,hks,hkl⟩,rfl⟩
 simp only [zI,zu,zw,simprocAttr,implies_true,amz,zf,tys]
theorem z8x (bm bp nb:Nat) (m:List Int→Option Value) (hnb:nb≤1000000) :
  MemC Tryz.prog 42 8 (hpM bm bp nb m) [.fn (.func 44) [.ptr 7 0]] fun hp' r=>(∃ ks,hp' = (0,.row 70 6 (ks.map keyC)) :: hpM bm bp nb m∧KeysIn m ks∧ks.length≤nb)∧r = .own 0:=by
 have ha:=z6e bm bp nb m hnb
 simp only [hpM] at ha ⊢
 refine MemC.of Tryz.func42 rfl 5 rfl (by decide) ?_;simp only [z08,frOf]
 repeat' (first|refine T.zk fun K hK=>?_|apply T.block|(refine T.reg (by kernel_rfl) fun K' hK'=>?_;simp only [bz];(repeat' (first|(with_reducible refine WL.fin ?_;apply hK';clear hK' K')|((with_reducible refine WL.step fun K2 hK2=>?_);simp only [simprocAttr,implies_true,amz,zf,tys,z7J];(repeat' (first|with_reducible (first|(apply hK2;clear hK2 K2)|apply And.intro|intro hb)|((with_reducible refine qg 8 _ _ [6,7] (Ent.of Tryz.func60 (by kernel_rfl) rfl) (ha) ?_ ?_ ?_);(focus ((refine ⟨Nat.le_of_ble_eq_true rfl,?_,?_⟩ <;> simp only [pz,reduceIte,Nat.reduceEqDiff,AV.okB,Nat.reduceLT,]);done));(focus (simp [AV.okB,AV.qm];done));rintro hp' r ⟨⟨ks,rfl,hks,hkl⟩,rfl⟩;refine ⟨by simp [Kept,zq,AO.handle],?_⟩;simp only [cz,ASt.qh,AO.keep,Nat.reduceLeDiff,reduceIte,Nat.reduceEqDiff,])))))))|apply T.skip|apply T.exit|refine T.zh rfl ?_|refine T.zg rfl ?_|refine T.cond rfl (fun hc=>?_) (fun hc=>?_)|apply T.ret|simp only [ze,z8,reduceIte,Nat.reduceEqDiff]|((repeat ((fail_if_success apply hK);clear hK K));apply hK;clear hK K))
 refine FinM.ret (s':=⟨[(2,.own 0)],(0,.row 70 6 (ks.map keyC)) :: hpM bm bp nb m,5,8⟩) (r := .own 0) (.inr rfl) Tryz.results42 (by refine zi.of' rfl ?_;simp only [wks,reduceIte,Nat.reduceEqDiff,ASt.okB,AV.okB,Nat.reduceLT,implies_true,hpM]) rfl ?_ ⟨⟨ks,rfl,hks,hkl⟩,rfl⟩
 simp only [zI,zu,zw,simprocAttr,implies_true,amz,zf,tys]
theorem keysF_ok (bp nb:Nat) (m:List Int→Option Value) :
  MemC Tryz.prog 18 8 [(6,prM (some bp) nb m)] [.own 6] fun hp' r=>(∃ bm,hp' = hpM bm bp nb m∧r = .fn (.func 44) [.ptr 7 0]):=by
 refine MemC.of Tryz.func18 rfl 4 rfl (by decide) ?_;simp only [z08,frOf]
 repeat' (first|refine T.zk fun K hK=>?_|apply T.block|apply T.skip|apply T.exit|refine T.zh rfl ?_|refine T.zg rfl ?_|refine T.cond rfl (fun hc=>?_) (fun hc=>?_)|apply T.ret|simp only [ze,z8,reduceIte,Nat.reduceEqDiff]|((repeat ((fail_if_success apply hK);clear hK K));apply hK;clear hK K))
 (refine T.reg (by kernel_rfl) fun K' hK'=>?_;simp only [bz];(with_reducible repeat' (first|(apply WL.fin;apply hK';clear hK' K')|(refine WL.step fun K2 hK2=>?_;simp only [simprocAttr,implies_true,amz,zf,tys];repeat' (first|(apply hK2;clear hK2 K2)|apply And.intro|intro hb))));all_goals ((try simp only [ze,z8,reduceIte,Nat.reduceEqDiff]);(try ((repeat ((fail_if_success apply hK);clear hK K));apply hK;clear hK K))))
 refine T.weak (zi.ren _ 8 7) ?_;simp only [ASt.ren,AV.zZ,AV.zG,AV.qd,AV.qw,AV.zW,AV.zF,AV.zA,AV.qc,AV.qO,AV.zD,AV.qx,AO.qD,AO.qG,AO.qE,AO.qF,yl,List.filter_cons,List.filter_nil,zq,qp,reduceIte,Nat.reduceEqDiff,Nat.reduceLT,Nat.reduceBneDiff,bne_self_eq_false,Bool.and_true,Bool.and_false,Bool.true_and,Bool.false_and,Bool.and_self,Bool.false_eq_true,ne_eq,not_false_eq_true,not_true_eq_false,and_self,and_true,true_and,and_false,bne_self_eq_false]
 refine T.pin 7 _ rfl fun bm=>?_;simp only [zO,AO.pin,yl,reduceIte,Nat.reduceEqDiff]
 repeat' (first|refine T.zk fun K hK=>?_|apply T.block|(refine T.reg (by kernel_rfl) fun K' hK'=>?_;simp only [bz];(with_reducible repeat' (first|(apply WL.fin;apply hK';clear hK' K')|(refine WL.step fun K2 hK2=>?_;simp only [simprocAttr,implies_true,amz,zf,tys];repeat' (first|(apply hK2;clear hK2 K2)|apply And.intro|intro hb)))))|apply T.skip|apply T.exit|refine T.zh rfl ?_|refine T.zg rfl ?_|refine T.cond rfl (fun hc=>?_) (fun hc=>?_)|apply T.ret|simp only [ze,z8,reduceIte,Nat.reduceEqDiff]|((repeat ((fail_if_success apply hK);clear hK K));apply hK;clear hK K))
 refine FinM.ret (s':=⟨[(2,.fn (.func 44) [.ptr 7 0])],hpM bm bp nb m,4,8⟩) (r := .fn (.func 44) [.ptr 7 0]) (.inr rfl) Tryz.results18 (by refine zi.of' rfl ?_;simp only [wks,reduceIte,Nat.reduceEqDiff,ASt.okB,AV.okB,Nat.reduceLT,implies_true,hpM,AV.qm]) rfl ?_ ⟨bm,rfl,rfl⟩
 simp only [zI,zu,zw,simprocAttr,implies_true,amz,zf,tys]
theorem cmpI_lt (x y:Int):cmpI x y<0↔x<y:=by
 unfold cmpI
 split
 ·omega
 ·split <;> omega
theorem cmpI_eq (x y:Int):cmpI x y=0↔x=y:=by
 unfold cmpI
 split
 ·omega
 ·split <;> omega
theorem orL_lt (x:Int) (r:List Int):orL (x :: r)<0↔x<0∨x=0∧orL r<0:=by
 rw [orL];split <;> omega
theorem orL_eq (x:Int) (r:List Int):orL (x :: r)=0↔x=0∧orL r=0:=by
 rw [orL];split <;> omega
theorem orL_nil:orL []=0:=rfl
theorem cmp6_lt (x1 x2 x3 x4 x5 x6 y1 y2 y3 y4 y5 y6:Int):cmp6 x1 x2 x3 x4 x5 x6 y1 y2 y3 y4 y5 y6<0↔lexB [x1,x2,x3,x4,x5,x6] [y1,y2,y3,y4,y5,y6]=true:=by
 simp only [cmp6,cmpT,orL_lt,orL_eq,orL_nil,cmpI_lt,cmpI_eq,lexB,Bool.or_eq_true,Bool.and_eq_true,decide_eq_true_eq,beq_iff_eq,Bool.false_eq_true,and_false,or_false,and_true,Int.lt_irrefl]
 constructor
 ·intro h;omega
 ·intro h;omega
abbrev K6 := { k:List Int // k.length=6 }
def encK (k:K6):List Value:=k.1.map (Value.int .i64)
def cmpG (k m:K6):Int:=cmp6 (k.1.getD 0 0) (k.1.getD 1 0) (k.1.getD 2 0) (k.1.getD 3 0) (k.1.getD 4 0) (k.1.getD 5 0) (m.1.getD 0 0) (m.1.getD 1 0) (m.1.getD 2 0) (m.1.getD 3 0) (m.1.getD 4 0) (m.1.getD 5 0)
theorem cmpG_lt (k m:K6):cmpG k m<0↔lexB k.1 m.1=true:=by
 obtain ⟨k,hk⟩:=k
 obtain ⟨m,hm⟩:=m
 obtain ⟨a,b,c,d,e,f,rfl⟩:=z1v hk
 obtain ⟨a',b',c',d',e',f',rfl⟩:=z1v hm
 exact cmp6_lt a b c d e f a' b' c' d' e' f'
theorem ltG (k m:K6):ltOf cmpG k m=lexB k.1 m.1:=by
 rw [Bool.eq_iff_iff,← cmpG_lt];simp [ltOf]
theorem cmpG_swo:SWO (ltOf cmpG) where
 irrefl x:=by rw [ltG];exact z3y _
 trans x y z h1 h2:=by rw [ltG] at *;exact z2e h1 h2
 ntrans x y z h1 h2:=by
  rw [ltG] at *
  cases h:lexB x.1 z.1 with
  | false=>rfl
  | true =>
   by_cases e:x.1=y.1
   ·rw [e,h2] at h;cases h
   ·have h3:=(z3n (x.2.trans y.2.symm) e).resolve_left (by rw [h1];simp)
    have:=z2e h3 h
    rw [h2] at this
    cases this
theorem pairAgg (w:World):(isAgg 70).run Tryz.prog w = .ok true w:=by kernel_rfl
theorem pairSz (w:World):(sizeOf 70).run Tryz.prog w = .ok 6 w:=by kernel_rfl
theorem rowsK_G (ks:List K6):z1u encK ks=(ks.map (·.1)).map keyC:=by
 simp [z1u,encK,keyC]
theorem sort_keys (ks:List (List Int)) (h6 : ∀ k ∈ ks,k.length=6) (hnd:ks.Nodup) (hlen:ks.length≤1000000) (N:Nat) (hp:Hp) (t:Nat) (hlk:hp.lookup t=some (.row 70 6 (ks.map keyC))) :
  MemK Tryz.prog 43 N hp [.own t,.fn (.func 19) []] fun hp' r=>(∃ S:List (List Int),S.Perm ks∧LxS S∧hp' = zO hp t (.row 70 6 (S.map keyC)))∧r = .tup []:=by
 obtain ⟨ls,hls⟩ : ∃ ls:List K6,ls.map (·.1)=ks:=⟨ks.attach.map fun x=>⟨x.1,h6 x.1 x.2⟩,by simp⟩
 have h:=z94 sortP 6 pairAgg pairSz encK (fun x=>by simp [encK,x.2]) (by omega) (fun x v hv=>by
   obtain ⟨y,_,rfl⟩:=List.mem_map.1 hv;rfl) cmpG cmpG_swo 19 ls (by rw [← List.length_map (f:=(·.1)),hls];omega) (Ent.of Tryz.func19 (by kernel_rfl) rfl) (fun x y w=>by
  obtain ⟨x,hx⟩:=x
  obtain ⟨y,hy⟩:=y
  obtain ⟨a,b,c,d,e,f,rfl⟩:=z1v hx
  obtain ⟨a',b',c',d',e',f',rfl⟩:=z1v hy
  exact z8H a b c d e f a' b' c' d' e' f' w) N hp t 70 (by rw [rowsK_G,hls];exact hlk)
 intro L loc w vs hh hvs
 refine Calls.mono (h L loc w vs hh hvs) ?_
 rintro e w' ⟨v,hp',r,h1,⟨h2,ks',h3,h4,h5⟩,h6'⟩
 refine ⟨v,hp',r,h1,⟨⟨ks'.map (·.1),?_,?_,?_⟩,h2⟩,h6'⟩
 ·rw [← hls];exact h3.map _
 ·have hn:(ks'.map (·.1)).Nodup:=by
   have:(ks'.map (·.1)).Perm ks:=by rw [← hls];exact h3.map _
   exact this.nodup_iff.2 hnd
  rw [List.nodup_iff_pairwise_ne,List.pairwise_map] at hn
  refine List.pairwise_map.2 (h4.imp₂ (fun x y h1 h2=>?_) hn)
  rw [cmpG_lt] at h1
  exact (z3n (x.2.trans y.2.symm) h2).resolve_right h1
 ·rw [h5,rowsK_G]
structure SortedK (m:List Int→Option Value) (ks:List (List Int)):Prop where
 srt:LxS ks
 mem : ∀ k,k ∈ ks↔WfN 6 k∧(m k).isSome=true
theorem z5X (bm bp nb:Nat) (m:List Int→Option Value) (hnb:nb≤1000000) :
  MemC Tryz.prog 17 8 (hpM bm bp nb m) [.fn (.func 44) [.ptr 7 0],.fn (.func 19) []] fun hp' r=>(∃ ks,hp' = (0,.row 70 6 (ks.map keyC)) :: hpM bm bp nb m∧SortedK m ks∧ks.length≤nb)∧r = .own 0:=by
 have ha:=z8x bm bp nb m hnb
 simp only [hpM] at ha ⊢
 refine MemC.of Tryz.func17 rfl 12 rfl (by decide) ?_;simp only [z08,frOf]
 repeat' (first|refine T.zk fun K hK=>?_|apply T.block|apply T.skip|apply T.exit|refine T.zh rfl ?_|refine T.zg rfl ?_|refine T.cond rfl (fun hc=>?_) (fun hc=>?_)|apply T.ret|simp only [ze,z8,reduceIte,Nat.reduceEqDiff]|((repeat ((fail_if_success apply hK);clear hK K));apply hK;clear hK K))
 (refine T.reg (by kernel_rfl) fun K' hK'=>?_;simp only [bz];(with_reducible repeat' (first|(apply WL.fin;apply hK';clear hK' K')|(refine WL.step fun K2 hK2=>?_;simp only [simprocAttr,implies_true,amz,zf,tys];repeat' (first|(apply hK2;clear hK2 K2)|apply And.intro|intro hb))));all_goals ((try simp only [ze,z8,reduceIte,Nat.reduceEqDiff]);(try ((repeat ((fail_if_success apply hK);clear hK K));apply hK;clear hK K))))
 repeat' (first|refine T.zk fun K hK=>?_|apply T.block|apply T.skip|apply T.exit|refine T.zh rfl ?_|refine T.zg rfl ?_|refine T.cond rfl (fun hc=>?_) (fun hc=>?_)|apply T.ret|simp only [ze,z8,reduceIte,Nat.reduceEqDiff]|((repeat ((fail_if_success apply hK);clear hK K));apply hK;clear hK K))
 (refine T.reg (by kernel_rfl) fun K' hK'=>?_;simp only [bz];(repeat' (first|(with_reducible refine WL.fin ?_;apply hK';clear hK' K')|((with_reducible refine WL.step fun K2 hK2=>?_);simp only [simprocAttr,implies_true,amz,zf,tys];(repeat' (first|with_reducible (first|(apply hK2;clear hK2 K2)|apply And.intro|intro hb)|((with_reducible refine qg 8 _ _ [6,7] (Ent.of Tryz.func42 (by kernel_rfl) rfl) (ha) ?_ ?_ ?_);(focus ((refine ⟨Nat.le_of_ble_eq_true rfl,?_,?_⟩ <;> simp only [pz,reduceIte,Nat.reduceEqDiff,AV.okB,Nat.reduceLT,]);done));(focus (simp [AV.okB,AV.qm];done));rintro hp' r ⟨⟨ks,rfl,hks,hkl⟩,rfl⟩;refine ⟨by simp [Kept,zq,AO.handle],?_⟩;simp only [cz,ASt.qh,AO.keep,Nat.reduceLeDiff,reduceIte,Nat.reduceEqDiff,AV.qm]))))));all_goals ((try simp only [ze,z8,reduceIte,Nat.reduceEqDiff]);(try ((repeat ((fail_if_success apply hK);clear hK K));apply hK;clear hK K))))
 have hso:=sort_keys ks (fun k hk=>((hks.mem k).1 hk).1.1) hks.nd (by omega) 8 [(0,.row 70 6 (ks.map keyC)),(6,prM (some bp) nb m),(7,.boxP (some bm) mpT [.own 6])] 0 rfl
 repeat' (first|refine T.zk fun K hK=>?_|apply T.block|(refine T.reg (by kernel_rfl) fun K' hK'=>?_;simp only [bz];(repeat' (first|(with_reducible refine WL.fin ?_;apply hK';clear hK' K')|((with_reducible refine WL.step fun K2 hK2=>?_);simp only [simprocAttr,implies_true,amz,zf,tys];(repeat' (first|with_reducible (first|(apply hK2;clear hK2 K2)|apply And.intro|intro hb)|((with_reducible refine z7H 8 _ _ [0,6,7] (Ent.of Tryz.func43 (by kernel_rfl) rfl) (hso) ?_ ?_ ?_);(focus ((refine ⟨Nat.le_of_ble_eq_true rfl,?_,?_⟩ <;> simp only [pz,reduceIte,Nat.reduceEqDiff,AV.okB,Nat.reduceLT,]);done));(focus (simp [AV.okB,AV.qm];done));rintro hp' r ⟨⟨S,hpm,hst,rfl⟩,rfl⟩;simp only [cz,ASt.qh,AO.keep,Nat.reduceLeDiff,reduceIte,Nat.reduceEqDiff,zO])))))))|apply T.skip|apply T.exit|refine T.zh rfl ?_|refine T.zg rfl ?_|refine T.cond rfl (fun hc=>?_) (fun hc=>?_)|apply T.ret|simp only [ze,z8,reduceIte,Nat.reduceEqDiff]|((repeat ((fail_if_success apply hK);clear hK K));apply hK;clear hK K))
 refine FinM.ret (s':=⟨[(4,.own 0)],(0,.row 70 6 (S.map keyC)) :: hpM bm bp nb m,12,8⟩) (r := .own 0) (.inr rfl) Tryz.results17 (by refine zi.of' rfl ?_;simp only [wks,reduceIte,Nat.reduceEqDiff,ASt.okB,AV.okB,Nat.reduceLT,implies_true,hpM]) rfl ?_ ⟨⟨S,rfl,⟨hst,fun k=>by rw [hpm.mem_iff];exact hks.mem k⟩,by rw [hpm.length_eq];exact hkl⟩,rfl⟩
 simp only [zI,zu,zw,simprocAttr,implies_true,amz,zf,tys]
structure EvW (e:Ev):Prop where
 fn:inW e.fn
 pc:inW e.pc
 kind:inW e.kind
theorem z7g {a b:Ev} (ha:EvW a) (hb:EvW b):WfN 6 (keyL a b):=⟨rfl,by simp [keyL,ha.fn,ha.pc,ha.kind,hb.fn,hb.pc,hb.kind]⟩
def foV (p:P2 × Int):Value := .agg #[.int .i64 p.1.1,.int .i64 p.1.2,.int .i64 p.2]
theorem z4U (p:P2 × Int):cv (foV p) = .agg [.int p.1.1,.int p.1.2,.int p.2]:=by simp [cv,foV,Value.oneCell',AV.int]
theorem cv_z3:cv (Value.agg { toList := [Value.int IntKind.i64 0,Value.int IntKind.i64 0,Value.int IntKind.i64 0] }) = .agg [.int 0,.int 0,.int 0]:=by simp [cv,Value.oneCell',AV.int]
def mF (l:List Ev) (rs:List P2) (i:Nat) (k:List Int):Option Value:=(fndF (keyR l) k (rs.take i)).map foV
theorem mF_zero (l:List Ev) (rs:List P2):mF l rs 0=fun _=>none:=by funext k;rfl
theorem mF_upd {l:List Ev} {rs:List P2} {i:Nat} {r:P2} (h:rs[i]? = some r):(fun x=>if x=keyR l r then some (foV (upF (fndF (keyR l) (keyR l r) (rs.take i)) r)) else mF l rs i x)=mF l rs (i+1):=by
 funext x
 unfold mF
 rw [z6l h]
 by_cases e:x=keyR l r
 ·subst e;simp
 ·have : ¬ keyR l r=x:=fun h=>e h.symm
  simp [e,this]
theorem cmpI_gt (x y:Int) : 0<cmpI x y↔y<x:=by
 unfold cmpI
 split
 ·omega
 ·split <;> omega
theorem orL_gt (x:Int) (r:List Int) : 0<orL (x :: r) ↔ 0<x∨x=0 ∧ 0<orL r:=by
 rw [orL];split <;> omega
theorem cmp3_gt (a b:Ev):decide (0<cmp3 a b)=qU a b:=by
 rw [Bool.eq_iff_iff,decide_eq_true_eq]
 simp only [cmp3,orL_gt,orL_nil,cmpI_gt,cmpI_eq,Int.lt_irrefl,and_false,or_false]
 unfold qU
 by_cases h1:a.fn=b.fn
 ·rw [if_neg (by simpa using h1)]
  by_cases h2:a.pc=b.pc
  ·rw [if_neg (by simpa using h2),decide_eq_true_eq];omega
  ·rw [if_pos h2,decide_eq_true_eq];omega
 ·rw [if_pos h1,decide_eq_true_eq];omega
theorem wf_mem {l:List Ev} (h : ∀ e ∈ l,EvW e) {r:P2} {e f:Ev} (hr:Rac l r e f):EvW e∧EvW f∧WfN 6 (keyL (loE e f) (hiE e f)):=by
 have he:=h e (List.mem_of_getElem? hr.e)
 have hf:=h f (List.mem_of_getElem? hr.f)
 refine ⟨he,hf,z7g ?_ ?_⟩
 ·unfold loE;split
  ·exact hf
  ·exact he
 ·unfold hiE;split
  ·exact he
  ·exact hf
theorem z7v {l:List Ev} {rs:List P2} {ks:List (List Int)} (hw : ∀ k ∈ rs.map (keyR l),WfN 6 k) (h:SortedK (mF l rs rs.length) ks):ks=z0Y (rs.map (keyR l)):=by
 refine lxs_eq h.srt (z6p (n := 6) z3x) fun k=>?_
 rw [h.mem,z0A (n := 6) z3x]
 unfold mF
 rw [List.take_length,Option.isSome_map]
 constructor
 ·rintro ⟨_,hs⟩
  obtain ⟨p,hp⟩:=Option.isSome_iff_exists.1 hs
  obtain ⟨_,_,h1,h2⟩:=z1a (f:=p.1) (c:=p.2) hp
  exact List.mem_map.2 ⟨_,h1,h2⟩
 ·intro hk
  obtain ⟨r,c,h1⟩:=z4q hk
  exact ⟨hw k hk,by rw [h1];rfl⟩
theorem z6x (l:List Ev) (hel : ∀ e ∈ l,EvW e) (ss:List P2) (ps:List Int) (hdw:DW ss ps) (hsz:ss.length≤1000000) (rs:List P2) (hrs:rs.length≤1000):zt Tryz.prog 6 [trA l ss ps,raA rs] (merA l ss ps rs):=by
 have hvd:=z8s ss ps hdw hsz
 have hrl:=z04 rs
 have hlm:(l.map evC).length=l.length:=by simp
 have hm1:(1≤maxLen)=True:=eq_true (by unfold maxLen;omega)
 have hw1:IntKind.i64.wrap 1=1:=by decide
 have hac:=fun r=>acc_ok l ss ps r
 simp only [trA,dpA,p2A] at hvd hac
 simp only [trA,dpA,p2A,raA,merA]
 cases hv:validD ss ps with
 | false =>
  have ho:okM l ss ps rs=false:=by simp [okM,hv]
  have hx:outM l ss ps rs = []:=by simp [outM,ho]
  have hy:errM l ss ps rs=1:=by simp [errM,ho]
  rw [hv] at hvd
  rw [hx,hy]
  simp only [List.map_nil]
  refine zt.of Tryz.func6 rfl 117 rfl (by decide) (by simp [AV.okB]) ?_
  repeat' (first|refine T.zk fun K hK=>?_|apply T.block|(refine T.reg (by kernel_rfl) fun K' hK'=>?_;simp only [bz];(repeat' (first|(with_reducible refine WL.fin ?_;apply hK';clear hK' K')|((with_reducible refine WL.step fun K2 hK2=>?_);simp only [simprocAttr,implies_true,amz,zf,tys];(repeat' (first|with_reducible (first|(apply hK2;clear hK2 K2)|apply And.intro|intro hb)|((with_reducible first|apply zl|apply zn);case h=>exact CallV.plain (Ent.of Tryz.func13 (by kernel_rfl) rfl) (hvd) (by simp [AV.okB]))))))))|apply T.skip|apply T.exit|refine T.zh rfl ?_|refine T.zg rfl ?_|refine T.cond rfl (fun hc=>?_) (fun hc=>?_)|apply T.ret|simp only [ze,z8,reduceIte,Nat.reduceEqDiff]|((repeat ((fail_if_success apply hK);clear hK K));apply hK;clear hK K))
  refine zP.retW (.inr rfl) Tryz.results6 (s':=⟨[(4,.p (.seq 7 [])),(5,.int 1)],[],117,0⟩) (by refine zi.of' rfl ?_;simp only [wks,reduceIte,Nat.reduceEqDiff,ASt.okB,AV.okB,Nat.reduceLT,implies_true,]) ?_
  simp only [zI,zu,zw,simprocAttr,implies_true,amz,zf,tys]
 | true =>
 rw [hv] at hvd
 refine zt.of Tryz.func6 rfl 117 rfl (by decide) (by simp [AV.okB]) ?_
 refine T.weak (zi.upN _ 8 (Nat.le_of_ble_eq_true rfl)) ?_
 repeat' (first|refine T.zk fun K hK=>?_|apply T.block|apply T.skip|apply T.exit|refine T.zh rfl ?_|refine T.zg rfl ?_|refine T.cond rfl (fun hc=>?_) (fun hc=>?_)|apply T.ret|simp only [ze,z8,reduceIte,Nat.reduceEqDiff]|((repeat ((fail_if_success apply hK);clear hK K));apply hK;clear hK K))
 (refine T.reg (by kernel_rfl) fun K' hK'=>?_;simp only [bz];(with_reducible repeat' (first|(apply WL.fin;apply hK';clear hK' K')|(refine WL.step fun K2 hK2=>?_;simp only [simprocAttr,implies_true,amz,zf,tys];repeat' (first|(apply hK2;clear hK2 K2)|apply And.intro|intro hb))));all_goals ((try simp only [ze,z8,reduceIte,Nat.reduceEqDiff]);(try ((repeat ((fail_if_success apply hK);clear hK K));apply hK;clear hK K))))
 repeat' (first|refine T.zk fun K hK=>?_|apply T.block|apply T.skip|apply T.exit|refine T.zh rfl ?_|refine T.zg rfl ?_|refine T.cond rfl (fun hc=>?_) (fun hc=>?_)|apply T.ret|simp only [ze,z8,reduceIte,Nat.reduceEqDiff]|((repeat ((fail_if_success apply hK);clear hK K));apply hK;clear hK K))
 (refine T.reg (by kernel_rfl) fun K' hK'=>?_;simp only [bz];(repeat' (first|(with_reducible refine WL.fin ?_;apply hK';clear hK' K')|((with_reducible refine WL.step fun K2 hK2=>?_);simp only [simprocAttr,implies_true,amz,zf,tys];(repeat' (first|with_reducible (first|(apply hK2;clear hK2 K2)|apply And.intro|intro hb)|((with_reducible first|apply zl|apply zn);case h=>exact CallV.plain (Ent.of Tryz.func13 (by kernel_rfl) rfl) (hvd) (by simp [AV.okB])))))));all_goals ((try simp only [ze,z8,reduceIte,Nat.reduceEqDiff]);(try ((repeat ((fail_if_success apply hK);clear hK K));apply hK;clear hK K))))
 repeat' (first|refine T.zk fun K hK=>?_|apply T.block|apply T.skip|apply T.exit|refine T.zh rfl ?_|refine T.zg rfl ?_|refine T.cond rfl (fun hc=>?_) (fun hc=>?_)|apply T.ret|simp only [ze,z8,reduceIte,Nat.reduceEqDiff]|((repeat ((fail_if_success apply hK);clear hK K));apply hK;clear hK K))
 (refine T.reg (by kernel_rfl) fun K' hK'=>?_;simp only [bz];(with_reducible repeat' (first|(apply WL.fin;apply hK';clear hK' K')|(refine WL.step fun K2 hK2=>?_;simp only [simprocAttr,implies_true,amz,zf,tys];repeat' (first|(apply hK2;clear hK2 K2)|apply And.intro|intro hb))));all_goals ((try simp only [ze,z8,reduceIte,Nat.reduceEqDiff]);(try ((repeat ((fail_if_success apply hK);clear hK K));apply hK;clear hK K))))
 refine T.weak (zi.ren _ 9 6) ?_;simp only [ASt.ren,AV.zZ,AV.zG,AV.qd,AV.qw,AV.zW,AV.zF,AV.zA,AV.qc,AV.qO,AV.zD,AV.qx,AO.qD,AO.qG,AO.qE,AO.qF,yl,List.filter_cons,List.filter_nil,zq,qp,reduceIte,Nat.reduceEqDiff,Nat.reduceLT,Nat.reduceBneDiff,bne_self_eq_false,Bool.and_true,Bool.and_false,Bool.true_and,Bool.false_and,Bool.and_self,Bool.false_eq_true,ne_eq,not_false_eq_true,not_true_eq_false,and_self,and_true,true_and,and_false,bne_self_eq_false]
 refine T.pin 6 _ rfl fun bp=>?_;simp only [zO,AO.pin,yl,reduceIte,Nat.reduceEqDiff]
 repeat' (first|refine T.zk fun K hK=>?_|apply T.block|(refine T.reg (by kernel_rfl) fun K' hK'=>?_;simp only [bz];(with_reducible repeat' (first|(apply WL.fin;apply hK';clear hK' K')|(refine WL.step fun K2 hK2=>?_;simp only [simprocAttr,implies_true,amz,zf,tys,hrl];repeat' (first|(apply hK2;clear hK2 K2)|apply And.intro|intro hb)))))|apply T.skip|apply T.exit|refine T.zh rfl ?_|refine T.zg rfl ?_|refine T.cond rfl (fun hc=>?_) (fun hc=>?_)|apply T.ret|simp only [ze,z8,reduceIte,Nat.reduceEqDiff]|((repeat ((fail_if_success apply hK);clear hK K));apply hK;clear hK K))
 refine T.z02 (fun i:Nat=>⟨[(1,.p (.seq 2 (rowP rs))),(2,.ptr 8 0),(6,.own 6),(20,.p (.seq 2 (rowP rs))),(21,.int rs.length),(22,.int i)],[(6,prM (some bp) i (mF l rs i)),(8,.boxP none 31 [.p (.seq 9 (l.map evC)),.p (.seq 2 (rowP ss)),.p (.seq 1 (rowZ ps))])],117,9⟩) (fun i=>i≤rs.length∧rs.all (accB l ss.length)=(rs.drop i).all (accB l ss.length)) (fun i=>rs.length-i) 0 ⟨Nat.zero_le _,by simp⟩ (by refine zi.of' rfl ?_;simp only [wks,reduceIte,Nat.reduceEqDiff,ASt.okB,AV.okB,Nat.reduceLT,implies_true,Int.natCast_zero,mF_zero,z6v,prM]) ?_
 rintro i ⟨hi,hal⟩ KL hKL
 by_cases hlt:i<rs.length
 ·have hd:decide ((i:Int)<(rs.length:Int))=true:=by simpa using hlt
  have hi0:(0≤(i:Int))=True:=eq_true (by omega)
  have hml:(i<maxLen)=True:=eq_true (by unfold maxLen;omega)
  obtain ⟨r,hri⟩:=qA hlt
  have m1:=z0I hri
  have hac:=hac r
  rw [drop_at hri,List.all_cons] at hal
  cases ha:accB l ss.length r with
  | false =>
   rw [ha,Bool.false_and] at hal
   rw [ha] at hac
   have ho:okM l ss ps rs=false:=by simp only [okM,hal,Bool.and_false]
   have hx:outM l ss ps rs = []:=by simp [outM,ho]
   have hy:errM l ss ps rs=1:=by simp [errM,ho]
   repeat' (first|refine T.zk fun K hK=>?_|apply T.block|(refine T.reg (by kernel_rfl) fun K' hK'=>?_;simp only [bz];(repeat' (first|(with_reducible refine WL.fin ?_;apply hK';clear hK' K')|((with_reducible refine WL.step fun K2 hK2=>?_);simp only [simprocAttr,implies_true,amz,zf,tys,hrl,hd,hi0,Int.toNat_natCast,m1];(repeat' (first|with_reducible (first|(apply hK2;clear hK2 K2)|apply And.intro|intro hb)|((with_reducible first|apply zl|apply zn);case h=>exact CallV.plain (Ent.of Tryz.func14 (by kernel_rfl) rfl) (hac) (by simp [AV.okB]))))))))|apply T.skip|apply T.exit|refine T.zh rfl ?_|refine T.zg rfl ?_|refine T.cond rfl (fun hc=>?_) (fun hc=>?_)|apply T.ret|simp only [ze,z8,reduceIte,Nat.reduceEqDiff]|((repeat ((fail_if_success apply hK);clear hK K));apply hK;clear hK K))
   refine zP.retW (.inr rfl) Tryz.results6 (s':=⟨[(4,.p (.seq 7 [])),(5,.int 1)],[],117,0⟩) (by refine zi.of' rfl ?_;simp only [wks,reduceIte,Nat.reduceEqDiff,ASt.okB,AV.okB,Nat.reduceLT,implies_true,]) ?_
   simp only [zI,zu,zw,simprocAttr,implies_true,amz,zf,tys,hx,hy,List.map_nil]
  | true =>
   rw [ha,Bool.true_and] at hal
   rw [ha] at hac
   have hKL : ∀ (s' : ASt) (j:Nat),zi s' ⟨[(1,.p (.seq 2 (rowP rs))),(2,.ptr 8 0),(6,.own 6),(20,.p (.seq 2 (rowP rs))),(21,.int rs.length),(22,.int j)],[(6,prM (some bp) j (mF l rs j)),(8,.boxP none 31 [.p (.seq 9 (l.map evC)),.p (.seq 2 (rowP ss)),.p (.seq 1 (rowZ ps))])],117,9⟩→j=i+1→KL s':=fun s' j h1 h2=>hKL s' j h1 ⟨by omega,by subst h2;exact hal⟩ (by omega)
   obtain ⟨e,f,hra,hx2⟩:=z5n ha
   have hkk:keyR l r=keyL (loE e f) (hiE e f):=by obtain ⟨h3,h4⟩:=hra.at;rw [keyR,h3,h4]
   obtain ⟨hve,hvf,_⟩:=wf_mem hel hra
   have hi1:(0≤r.1)=True:=eq_true hra.i0
   have hj1:(0≤r.2)=True:=eq_true (by have:=hra.i0;have:=hra.ij;omega)
   have me:=z0W hra.e
   have mf:=z0W hra.f
   have hoe:=of_ok e
   have hof:=of_ok f
   have hcm:=z6Y e f
   have hgt:=cmp3_gt e f
   simp only [evA,evC,inA,yl] at hoe hof hcm
   cases hg:qU e f with
   | false =>
    rw [hg] at hgt
    have hko:=z1F hve.fn hve.pc hve.kind hvf.fn hvf.pc hvf.kind
    have hwf:=z7g hve hvf
    have hkr:keyR l r=keyL e f:=by rw [hkk];simp [loE,hiE,hg]
    have hat:=z2M z5c (mF l rs i) hwf
    have hup:=fun v=>z4d z5c (mF l rs i) hwf v
    have hmf:=mF_upd (l:=l) hri
    rw [hkr] at hmf
    have hmk:mF l rs i (keyL e f)=(fndF (keyR l) (keyL e f) (rs.take i)).map foV:=rfl
    repeat' (first|refine T.zk fun K hK=>?_|apply T.block|(refine T.reg (by kernel_rfl) fun K' hK'=>?_;simp only [bz];(repeat' (first|(with_reducible refine WL.fin ?_;apply hK';clear hK' K')|((with_reducible refine WL.step fun K2 hK2=>?_);simp only [simprocAttr,implies_true,amz,zf,tys,hrl,hd,hi0,Int.toNat_natCast,m1];(repeat' (first|with_reducible (first|(apply hK2;clear hK2 K2)|apply And.intro|intro hb)|((with_reducible first|apply zl|apply zn);case h=>exact CallV.plain (Ent.of Tryz.func14 (by kernel_rfl) rfl) (hac) (by simp [AV.okB]))))))))|apply T.skip|apply T.exit|refine T.zh rfl ?_|refine T.zg rfl ?_|refine T.cond rfl (fun hc=>?_) (fun hc=>?_)|apply T.ret|simp only [ze,z8,reduceIte,Nat.reduceEqDiff]|((repeat ((fail_if_success apply hK);clear hK K));apply hK;clear hK K))
    refine T.comm [some (0,1),some (0,1),some (0,1),some (0,1),some (0,1),some (0,1),some (0,1),some (0,1),some (0,1),some (0,1),some (0,1),some (0,1),some (0,1),some (0,1),some (0,1),none,none] (by kernel_rfl) (by kernel_rfl) fun K' hK'=>?_;simp only [yl,List.zip_cons_cons,List.zip_nil_left];(repeat' (first|(with_reducible refine WC.fin ?_;apply hK';clear hK' K')|((first|(with_reducible refine WC.z0O fun K2 hK2=>?_)|(with_reducible refine WC.stepW fun K2 hK2=>?_));simp only [simprocAttr,implies_true,amz,zf,WCg,WCv,WOw,allP,dav,Chk,List.filter_cons,List.filter_nil,bne_self_eq_false,Nat.reduceBneDiff,Bool.false_eq_true,tys,hlm,hi1,hj1,me,mf];(repeat' (first|(with_reducible refine hK2 _ _ ?_;clear hK2 K2)|with_reducible (first|(apply hK2;clear hK2 K2)|apply And.intro|intro hb)|(with_reducible rfl)|((with_reducible show @Eq ASt _ _);rfl)|((with_reducible first|apply zl|apply zn);case h=>exact CallV.plain (Ent.of Tryz.func15 (by kernel_rfl) rfl) (hoe) (by simp [AV.okB]))|((with_reducible first|apply zl|apply zn);case h=>exact CallV.plain (Ent.of Tryz.func15 (by kernel_rfl) rfl) (hof) (by simp [AV.okB])))))));all_goals ((try simp only [ze,z8,reduceIte,Nat.reduceEqDiff]);(try ((repeat ((fail_if_success apply hK);clear hK K));apply hK;clear hK K)))
    repeat' (first|refine T.zk fun K hK=>?_|apply T.block|apply T.skip|apply T.exit|refine T.zh rfl ?_|refine T.zg rfl ?_|refine T.cond rfl (fun hc=>?_) (fun hc=>?_)|apply T.ret|simp only [ze,z8,reduceIte,Nat.reduceEqDiff]|((repeat ((fail_if_success apply hK);clear hK K));apply hK;clear hK K))
    (refine T.reg (by kernel_rfl) fun K' hK'=>?_;simp only [bz];(repeat' (first|(with_reducible refine WL.fin ?_;apply hK';clear hK' K')|((with_reducible refine WL.step fun K2 hK2=>?_);simp only [simprocAttr,implies_true,amz,zf,tys,hgt];(repeat' (first|with_reducible (first|(apply hK2;clear hK2 K2)|apply And.intro|intro hb)|((with_reducible first|apply zl|apply zn);case h=>exact CallV.plain (Ent.of Tryz.func16 (by kernel_rfl) rfl) (hcm) (by simp [AV.okB])))))));all_goals ((try simp only [ze,z8,reduceIte,Nat.reduceEqDiff]);(try ((repeat ((fail_if_success apply hK);clear hK K));apply hK;clear hK K))))
    repeat' (first|refine T.zk fun K hK=>?_|apply T.block|apply T.skip|apply T.exit|refine T.zh rfl ?_|refine T.zg rfl ?_|refine T.cond rfl (fun hc=>?_) (fun hc=>?_)|apply T.ret|simp only [ze,z8,reduceIte,Nat.reduceEqDiff]|((repeat ((fail_if_success apply hK);clear hK K));apply hK;clear hK K))
    cases hfo:fndF (keyR l) (keyL e f) (rs.take i) with
    | none =>
     rw [hfo] at hmk hmf
     simp only [Option.map_none,keyL] at hmk
     simp only [upF,foV] at hmf
     have hup2:=hup (.agg #[.int .i64 r.1,.int .i64 r.2,.int .i64 1])
     rw [hmf] at hup2
     simp only [keyL,foV] at hko hat hup2
     repeat' (first|refine T.zk fun K hK=>?_|apply T.block|(refine T.reg (by kernel_rfl) fun K' hK'=>?_;simp only [bz];(with_reducible repeat' (first|(apply WL.fin;apply hK';clear hK' K')|(refine WL.step fun K2 hK2=>?_;simp only [simprocAttr,implies_true,amz,zf,tys,hko,hat,hml,qW,hup2,hmk,Option.getD_none,Option.isSome_none,cv_z3,Bool.not_false,hw1];repeat' (first|(apply hK2;clear hK2 K2)|apply And.intro|intro hb)))))|apply T.skip|apply T.exit|refine T.zh rfl ?_|refine T.zg rfl ?_|refine T.cond rfl (fun hc=>?_) (fun hc=>?_)|apply T.ret|simp only [ze,z8,reduceIte,Nat.reduceEqDiff]|((repeat ((fail_if_success apply hK);clear hK K));apply hK;clear hK K))
     refine hKL _ (i+1) (by refine zi.of' rfl ?_;simp only [wks,reduceIte,Nat.reduceEqDiff,ASt.okB,AV.okB,Nat.reduceLT,implies_true,zx (show i<1152921504606846976 by omega),]) rfl
    | some p =>
     obtain ⟨g,c⟩:=p
     obtain ⟨c0,c1,_⟩:=z1a hfo
     have hcl:(rs.take i).length≤1000:=by rw [List.length_take];omega
     have hwc:IntKind.i64.wrap (c+1)=c+1:=z15 (by omega) (by omega)
     rw [hfo] at hmk hmf
     simp only [Option.map_some,keyL] at hmk
     simp only [upF] at hmf
     by_cases q1:r.2<g.2
     ·have d1:decide (r.2<g.2)=true:=by simpa using q1
      have hea:earB r g=true:=by unfold earB;rw [Bool.eq_iff_iff];simp;omega
      rw [hea,if_pos rfl] at hmf
      simp only [foV] at hmf
      have hup2:=hup (.agg #[.int .i64 r.1,.int .i64 r.2,.int .i64 (c+1)])
      rw [hmf] at hup2
      simp only [keyL] at hko hat hup2
      repeat' (first|refine T.zk fun K hK=>?_|apply T.block|(refine T.reg (by kernel_rfl) fun K' hK'=>?_;simp only [bz];(with_reducible repeat' (first|(apply WL.fin;apply hK';clear hK' K')|(refine WL.step fun K2 hK2=>?_;simp only [simprocAttr,implies_true,amz,zf,tys,hko,hat,hml,qW,hup2,hmk,Option.getD_some,Option.isSome_some,z4U,Bool.not_true,hwc,d1];repeat' (first|(apply hK2;clear hK2 K2)|apply And.intro|intro hb)))))|apply T.skip|apply T.exit|refine T.zh rfl ?_|refine T.zg rfl ?_|refine T.cond rfl (fun hc=>?_) (fun hc=>?_)|apply T.ret|simp only [ze,z8,reduceIte,Nat.reduceEqDiff]|((repeat ((fail_if_success apply hK);clear hK K));apply hK;clear hK K))
      refine hKL _ (i+1) (by refine zi.of' rfl ?_;simp only [wks,reduceIte,Nat.reduceEqDiff,ASt.okB,AV.okB,Nat.reduceLT,implies_true,zx (show i<1152921504606846976 by omega)]) rfl
     ·have d1:decide (r.2<g.2)=false:=by simpa using q1
      by_cases q2:r.2=g.2
      ·have d2:(r.2==g.2)=true:=by simpa using q2
       by_cases q3:r.1<g.1
       ·have d3:decide (r.1<g.1)=true:=by simpa using q3
        have hea:earB r g=true:=by unfold earB;rw [Bool.eq_iff_iff];simp;omega
        rw [hea,if_pos rfl] at hmf
        simp only [foV] at hmf
        have hup2:=hup (.agg #[.int .i64 r.1,.int .i64 r.2,.int .i64 (c+1)])
        rw [hmf] at hup2
        simp only [keyL] at hko hat hup2
        repeat' (first|refine T.zk fun K hK=>?_|apply T.block|(refine T.reg (by kernel_rfl) fun K' hK'=>?_;simp only [bz];(with_reducible repeat' (first|(apply WL.fin;apply hK';clear hK' K')|(refine WL.step fun K2 hK2=>?_;simp only [simprocAttr,implies_true,amz,zf,tys,hko,hat,hml,qW,hup2,hmk,Option.getD_some,Option.isSome_some,z4U,Bool.not_true,hwc,d1,d2,d3];repeat' (first|(apply hK2;clear hK2 K2)|apply And.intro|intro hb)))))|apply T.skip|apply T.exit|refine T.zh rfl ?_|refine T.zg rfl ?_|refine T.cond rfl (fun hc=>?_) (fun hc=>?_)|apply T.ret|simp only [ze,z8,reduceIte,Nat.reduceEqDiff]|((repeat ((fail_if_success apply hK);clear hK K));apply hK;clear hK K))
        refine hKL _ (i+1) (by refine zi.of' rfl ?_;simp only [wks,reduceIte,Nat.reduceEqDiff,ASt.okB,AV.okB,Nat.reduceLT,implies_true,zx (show i<1152921504606846976 by omega)]) rfl
       ·have d3:decide (r.1<g.1)=false:=by simpa using q3
        have hea:earB r g=false:=by unfold earB;rw [Bool.eq_false_iff];simp;omega
        rw [hea,if_neg (by simp)] at hmf
        simp only [foV] at hmf
        have hup2:=hup (.agg #[.int .i64 g.1,.int .i64 g.2,.int .i64 (c+1)])
        rw [hmf] at hup2
        simp only [keyL] at hko hat hup2
        repeat' (first|refine T.zk fun K hK=>?_|apply T.block|(refine T.reg (by kernel_rfl) fun K' hK'=>?_;simp only [bz];(with_reducible repeat' (first|(apply WL.fin;apply hK';clear hK' K')|(refine WL.step fun K2 hK2=>?_;simp only [simprocAttr,implies_true,amz,zf,tys,hko,hat,hml,qW,hup2,hmk,Option.getD_some,Option.isSome_some,z4U,Bool.not_true,hwc,d1,d2,d3];repeat' (first|(apply hK2;clear hK2 K2)|apply And.intro|intro hb)))))|apply T.skip|apply T.exit|refine T.zh rfl ?_|refine T.zg rfl ?_|refine T.cond rfl (fun hc=>?_) (fun hc=>?_)|apply T.ret|simp only [ze,z8,reduceIte,Nat.reduceEqDiff]|((repeat ((fail_if_success apply hK);clear hK K));apply hK;clear hK K))
        refine hKL _ (i+1) (by refine zi.of' rfl ?_;simp only [wks,reduceIte,Nat.reduceEqDiff,ASt.okB,AV.okB,Nat.reduceLT,implies_true,zx (show i<1152921504606846976 by omega)]) rfl
      ·have d2:(r.2==g.2)=false:=by simpa using q2
       have hea:earB r g=false:=by unfold earB;rw [Bool.eq_false_iff];simp;omega
       rw [hea,if_neg (by simp)] at hmf
       simp only [foV] at hmf
       have hup2:=hup (.agg #[.int .i64 g.1,.int .i64 g.2,.int .i64 (c+1)])
       rw [hmf] at hup2
       simp only [keyL] at hko hat hup2
       repeat' (first|refine T.zk fun K hK=>?_|apply T.block|(refine T.reg (by kernel_rfl) fun K' hK'=>?_;simp only [bz];(with_reducible repeat' (first|(apply WL.fin;apply hK';clear hK' K')|(refine WL.step fun K2 hK2=>?_;simp only [simprocAttr,implies_true,amz,zf,tys,hko,hat,hml,qW,hup2,hmk,Option.getD_some,Option.isSome_some,z4U,Bool.not_true,hwc,d1,d2];repeat' (first|(apply hK2;clear hK2 K2)|apply And.intro|intro hb)))))|apply T.skip|apply T.exit|refine T.zh rfl ?_|refine T.zg rfl ?_|refine T.cond rfl (fun hc=>?_) (fun hc=>?_)|apply T.ret|simp only [ze,z8,reduceIte,Nat.reduceEqDiff]|((repeat ((fail_if_success apply hK);clear hK K));apply hK;clear hK K))
       refine hKL _ (i+1) (by refine zi.of' rfl ?_;simp only [wks,reduceIte,Nat.reduceEqDiff,ASt.okB,AV.okB,Nat.reduceLT,implies_true,zx (show i<1152921504606846976 by omega)]) rfl
   | true =>
    rw [hg] at hgt
    have hko:=z1F hvf.fn hvf.pc hvf.kind hve.fn hve.pc hve.kind
    have hwf:=z7g hvf hve
    have hkr:keyR l r=keyL f e:=by rw [hkk];simp [loE,hiE,hg]
    have hat:=z2M z5c (mF l rs i) hwf
    have hup:=fun v=>z4d z5c (mF l rs i) hwf v
    have hmf:=mF_upd (l:=l) hri
    rw [hkr] at hmf
    have hmk:mF l rs i (keyL f e)=(fndF (keyR l) (keyL f e) (rs.take i)).map foV:=rfl
    repeat' (first|refine T.zk fun K hK=>?_|apply T.block|(refine T.reg (by kernel_rfl) fun K' hK'=>?_;simp only [bz];(repeat' (first|(with_reducible refine WL.fin ?_;apply hK';clear hK' K')|((with_reducible refine WL.step fun K2 hK2=>?_);simp only [simprocAttr,implies_true,amz,zf,tys,hrl,hd,hi0,Int.toNat_natCast,m1];(repeat' (first|with_reducible (first|(apply hK2;clear hK2 K2)|apply And.intro|intro hb)|((with_reducible first|apply zl|apply zn);case h=>exact CallV.plain (Ent.of Tryz.func14 (by kernel_rfl) rfl) (hac) (by simp [AV.okB]))))))))|apply T.skip|apply T.exit|refine T.zh rfl ?_|refine T.zg rfl ?_|refine T.cond rfl (fun hc=>?_) (fun hc=>?_)|apply T.ret|simp only [ze,z8,reduceIte,Nat.reduceEqDiff]|((repeat ((fail_if_success apply hK);clear hK K));apply hK;clear hK K))
    refine T.comm [some (0,1),some (0,1),some (0,1),some (0,1),some (0,1),some (0,1),some (0,1),some (0,1),some (0,1),some (0,1),some (0,1),some (0,1),some (0,1),some (0,1),some (0,1),none,none] (by kernel_rfl) (by kernel_rfl) fun K' hK'=>?_;simp only [yl,List.zip_cons_cons,List.zip_nil_left];(repeat' (first|(with_reducible refine WC.fin ?_;apply hK';clear hK' K')|((first|(with_reducible refine WC.z0O fun K2 hK2=>?_)|(with_reducible refine WC.stepW fun K2 hK2=>?_));simp only [simprocAttr,implies_true,amz,zf,WCg,WCv,WOw,allP,dav,Chk,List.filter_cons,List.filter_nil,bne_self_eq_false,Nat.reduceBneDiff,Bool.false_eq_true,tys,hlm,hi1,hj1,me,mf];(repeat' (first|(with_reducible refine hK2 _ _ ?_;clear hK2 K2)|with_reducible (first|(apply hK2;clear hK2 K2)|apply And.intro|intro hb)|(with_reducible rfl)|((with_reducible show @Eq ASt _ _);rfl)|((with_reducible first|apply zl|apply zn);case h=>exact CallV.plain (Ent.of Tryz.func15 (by kernel_rfl) rfl) (hoe) (by simp [AV.okB]))|((with_reducible first|apply zl|apply zn);case h=>exact CallV.plain (Ent.of Tryz.func15 (by kernel_rfl) rfl) (hof) (by simp [AV.okB])))))));all_goals ((try simp only [ze,z8,reduceIte,Nat.reduceEqDiff]);(try ((repeat ((fail_if_success apply hK);clear hK K));apply hK;clear hK K)))
    repeat' (first|refine T.zk fun K hK=>?_|apply T.block|apply T.skip|apply T.exit|refine T.zh rfl ?_|refine T.zg rfl ?_|refine T.cond rfl (fun hc=>?_) (fun hc=>?_)|apply T.ret|simp only [ze,z8,reduceIte,Nat.reduceEqDiff]|((repeat ((fail_if_success apply hK);clear hK K));apply hK;clear hK K))
    (refine T.reg (by kernel_rfl) fun K' hK'=>?_;simp only [bz];(repeat' (first|(with_reducible refine WL.fin ?_;apply hK';clear hK' K')|((with_reducible refine WL.step fun K2 hK2=>?_);simp only [simprocAttr,implies_true,amz,zf,tys,hgt];(repeat' (first|with_reducible (first|(apply hK2;clear hK2 K2)|apply And.intro|intro hb)|((with_reducible first|apply zl|apply zn);case h=>exact CallV.plain (Ent.of Tryz.func16 (by kernel_rfl) rfl) (hcm) (by simp [AV.okB])))))));all_goals ((try simp only [ze,z8,reduceIte,Nat.reduceEqDiff]);(try ((repeat ((fail_if_success apply hK);clear hK K));apply hK;clear hK K))))
    repeat' (first|refine T.zk fun K hK=>?_|apply T.block|apply T.skip|apply T.exit|refine T.zh rfl ?_|refine T.zg rfl ?_|refine T.cond rfl (fun hc=>?_) (fun hc=>?_)|apply T.ret|simp only [ze,z8,reduceIte,Nat.reduceEqDiff]|((repeat ((fail_if_success apply hK);clear hK K));apply hK;clear hK K))
    (refine T.reg (by kernel_rfl) fun K' hK'=>?_;simp only [bz];(with_reducible repeat' (first|(apply WL.fin;apply hK';clear hK' K')|(refine WL.step fun K2 hK2=>?_;simp only [simprocAttr,implies_true,amz,zf,tys];repeat' (first|(apply hK2;clear hK2 K2)|apply And.intro|intro hb))));all_goals ((try simp only [ze,z8,reduceIte,Nat.reduceEqDiff]);(try ((repeat ((fail_if_success apply hK);clear hK K));apply hK;clear hK K))))
    repeat' (first|refine T.zk fun K hK=>?_|apply T.block|apply T.skip|apply T.exit|refine T.zh rfl ?_|refine T.zg rfl ?_|refine T.cond rfl (fun hc=>?_) (fun hc=>?_)|apply T.ret|simp only [ze,z8,reduceIte,Nat.reduceEqDiff]|((repeat ((fail_if_success apply hK);clear hK K));apply hK;clear hK K))
    cases hfo:fndF (keyR l) (keyL f e) (rs.take i) with
    | none =>
     rw [hfo] at hmk hmf
     simp only [Option.map_none,keyL] at hmk
     simp only [upF,foV] at hmf
     have hup2:=hup (.agg #[.int .i64 r.1,.int .i64 r.2,.int .i64 1])
     rw [hmf] at hup2
     simp only [keyL,foV] at hko hat hup2
     repeat' (first|refine T.zk fun K hK=>?_|apply T.block|(refine T.reg (by kernel_rfl) fun K' hK'=>?_;simp only [bz];(with_reducible repeat' (first|(apply WL.fin;apply hK';clear hK' K')|(refine WL.step fun K2 hK2=>?_;simp only [simprocAttr,implies_true,amz,zf,tys,hko,hat,hml,qW,hup2,hmk,Option.getD_none,Option.isSome_none,cv_z3,Bool.not_false,hw1];repeat' (first|(apply hK2;clear hK2 K2)|apply And.intro|intro hb)))))|apply T.skip|apply T.exit|refine T.zh rfl ?_|refine T.zg rfl ?_|refine T.cond rfl (fun hc=>?_) (fun hc=>?_)|apply T.ret|simp only [ze,z8,reduceIte,Nat.reduceEqDiff]|((repeat ((fail_if_success apply hK);clear hK K));apply hK;clear hK K))
     refine hKL _ (i+1) (by refine zi.of' rfl ?_;simp only [wks,reduceIte,Nat.reduceEqDiff,ASt.okB,AV.okB,Nat.reduceLT,implies_true,zx (show i<1152921504606846976 by omega),]) rfl
    | some p =>
     obtain ⟨g,c⟩:=p
     obtain ⟨c0,c1,_⟩:=z1a hfo
     have hcl:(rs.take i).length≤1000:=by rw [List.length_take];omega
     have hwc:IntKind.i64.wrap (c+1)=c+1:=z15 (by omega) (by omega)
     rw [hfo] at hmk hmf
     simp only [Option.map_some,keyL] at hmk
     simp only [upF] at hmf
     by_cases q1:r.2<g.2
     ·have d1:decide (r.2<g.2)=true:=by simpa using q1
      have hea:earB r g=true:=by unfold earB;rw [Bool.eq_iff_iff];simp;omega
      rw [hea,if_pos rfl] at hmf
      simp only [foV] at hmf
      have hup2:=hup (.agg #[.int .i64 r.1,.int .i64 r.2,.int .i64 (c+1)])
      rw [hmf] at hup2
      simp only [keyL] at hko hat hup2
      repeat' (first|refine T.zk fun K hK=>?_|apply T.block|(refine T.reg (by kernel_rfl) fun K' hK'=>?_;simp only [bz];(with_reducible repeat' (first|(apply WL.fin;apply hK';clear hK' K')|(refine WL.step fun K2 hK2=>?_;simp only [simprocAttr,implies_true,amz,zf,tys,hko,hat,hml,qW,hup2,hmk,Option.getD_some,Option.isSome_some,z4U,Bool.not_true,hwc,d1];repeat' (first|(apply hK2;clear hK2 K2)|apply And.intro|intro hb)))))|apply T.skip|apply T.exit|refine T.zh rfl ?_|refine T.zg rfl ?_|refine T.cond rfl (fun hc=>?_) (fun hc=>?_)|apply T.ret|simp only [ze,z8,reduceIte,Nat.reduceEqDiff]|((repeat ((fail_if_success apply hK);clear hK K));apply hK;clear hK K))
      refine hKL _ (i+1) (by refine zi.of' rfl ?_;simp only [wks,reduceIte,Nat.reduceEqDiff,ASt.okB,AV.okB,Nat.reduceLT,implies_true,zx (show i<1152921504606846976 by omega)]) rfl
     ·have d1:decide (r.2<g.2)=false:=by simpa using q1
      by_cases q2:r.2=g.2
      ·have d2:(r.2==g.2)=true:=by simpa using q2
       by_cases q3:r.1<g.1
       ·have d3:decide (r.1<g.1)=true:=by simpa using q3
        have hea:earB r g=true:=by unfold earB;rw [Bool.eq_iff_iff];simp;omega
        rw [hea,if_pos rfl] at hmf
        simp only [foV] at hmf
        have hup2:=hup (.agg #[.int .i64 r.1,.int .i64 r.2,.int .i64 (c+1)])
        rw [hmf] at hup2
        simp only [keyL] at hko hat hup2
        repeat' (first|refine T.zk fun K hK=>?_|apply T.block|(refine T.reg (by kernel_rfl) fun K' hK'=>?_;simp only [bz];(with_reducible repeat' (first|(apply WL.fin;apply hK';clear hK' K')|(refine WL.step fun K2 hK2=>?_;simp only [simprocAttr,implies_true,amz,zf,tys,hko,hat,hml,qW,hup2,hmk,Option.getD_some,Option.isSome_some,z4U,Bool.not_true,hwc,d1,d2,d3];repeat' (first|(apply hK2;clear hK2 K2)|apply And.intro|intro hb)))))|apply T.skip|apply T.exit|refine T.zh rfl ?_|refine T.zg rfl ?_|refine T.cond rfl (fun hc=>?_) (fun hc=>?_)|apply T.ret|simp only [ze,z8,reduceIte,Nat.reduceEqDiff]|((repeat ((fail_if_success apply hK);clear hK K));apply hK;clear hK K))
        refine hKL _ (i+1) (by refine zi.of' rfl ?_;simp only [wks,reduceIte,Nat.reduceEqDiff,ASt.okB,AV.okB,Nat.reduceLT,implies_true,zx (show i<1152921504606846976 by omega)]) rfl
       ·have d3:decide (r.1<g.1)=false:=by simpa using q3
        have hea:earB r g=false:=by unfold earB;rw [Bool.eq_false_iff];simp;omega
        rw [hea,if_neg (by simp)] at hmf
        simp only [foV] at hmf
        have hup2:=hup (.agg #[.int .i64 g.1,.int .i64 g.2,.int .i64 (c+1)])
        rw [hmf] at hup2
        simp only [keyL] at hko hat hup2
        repeat' (first|refine T.zk fun K hK=>?_|apply T.block|(refine T.reg (by kernel_rfl) fun K' hK'=>?_;simp only [bz];(with_reducible repeat' (first|(apply WL.fin;apply hK';clear hK' K')|(refine WL.step fun K2 hK2=>?_;simp only [simprocAttr,implies_true,amz,zf,tys,hko,hat,hml,qW,hup2,hmk,Option.getD_some,Option.isSome_some,z4U,Bool.not_true,hwc,d1,d2,d3];repeat' (first|(apply hK2;clear hK2 K2)|apply And.intro|intro hb)))))|apply T.skip|apply T.exit|refine T.zh rfl ?_|refine T.zg rfl ?_|refine T.cond rfl (fun hc=>?_) (fun hc=>?_)|apply T.ret|simp only [ze,z8,reduceIte,Nat.reduceEqDiff]|((repeat ((fail_if_success apply hK);clear hK K));apply hK;clear hK K))
        refine hKL _ (i+1) (by refine zi.of' rfl ?_;simp only [wks,reduceIte,Nat.reduceEqDiff,ASt.okB,AV.okB,Nat.reduceLT,implies_true,zx (show i<1152921504606846976 by omega)]) rfl
      ·have d2:(r.2==g.2)=false:=by simpa using q2
       have hea:earB r g=false:=by unfold earB;rw [Bool.eq_false_iff];simp;omega
       rw [hea,if_neg (by simp)] at hmf
       simp only [foV] at hmf
       have hup2:=hup (.agg #[.int .i64 g.1,.int .i64 g.2,.int .i64 (c+1)])
       rw [hmf] at hup2
       simp only [keyL] at hko hat hup2
       repeat' (first|refine T.zk fun K hK=>?_|apply T.block|(refine T.reg (by kernel_rfl) fun K' hK'=>?_;simp only [bz];(with_reducible repeat' (first|(apply WL.fin;apply hK';clear hK' K')|(refine WL.step fun K2 hK2=>?_;simp only [simprocAttr,implies_true,amz,zf,tys,hko,hat,hml,qW,hup2,hmk,Option.getD_some,Option.isSome_some,z4U,Bool.not_true,hwc,d1,d2];repeat' (first|(apply hK2;clear hK2 K2)|apply And.intro|intro hb)))))|apply T.skip|apply T.exit|refine T.zh rfl ?_|refine T.zg rfl ?_|refine T.cond rfl (fun hc=>?_) (fun hc=>?_)|apply T.ret|simp only [ze,z8,reduceIte,Nat.reduceEqDiff]|((repeat ((fail_if_success apply hK);clear hK K));apply hK;clear hK K))
       refine hKL _ (i+1) (by refine zi.of' rfl ?_;simp only [wks,reduceIte,Nat.reduceEqDiff,ASt.okB,AV.okB,Nat.reduceLT,implies_true,zx (show i<1152921504606846976 by omega)]) rfl
 have hd:decide ((i:Int)<(rs.length:Int))=false:=by simpa using hlt
 obtain rfl:i=rs.length:=by omega
 rw [List.drop_eq_nil_of_le (by omega),List.all_nil] at hal
 have hacc : ∀ r ∈ rs,accB l ss.length r=true:=fun r hr=>List.all_eq_true.1 hal r hr
 have hrac : ∀ r ∈ rs,∃ e f,Rac l r e f∧stB ss.length e=true∧stB ss.length f=true∧keyR l r=keyL (loE e f) (hiE e f) ∧ ∀ c,repR l ss ps r c=z3A ss ps (loE e f) (hiE e f) c:=fun r hr=>by
  obtain ⟨e,f,h1,h2⟩:=z5n (hacc r hr)
  obtain ⟨h3,h4⟩:=h1.at
  simp only [accE,Bool.and_eq_true] at h2
  exact ⟨e,f,h1,h2.1.2,h2.2,by rw [keyR,h3,h4],fun c=>by rw [repR,h3,h4]⟩
 have hkw : ∀ k ∈ rs.map (keyR l),WfN 6 k:=fun k hk=>by
  obtain ⟨r,hr,rfl⟩:=List.mem_map.1 hk
  obtain ⟨e,f,h1,_,_,h2,_⟩:=hrac r hr
  rw [h2];exact (wf_mem hel h1).2.2
 have ho:okM l ss ps rs=true:=by simp only [okM,hv,hal,Bool.and_self]
 have hx:outM l ss ps rs=outR l ss ps rs:=by simp [outM,ho]
 have hy:errM l ss ps rs=0:=by simp [errM,ho]
 have hkF:=keysF_ok bp rs.length (mF l rs rs.length)
 repeat' (first|refine T.zk fun K hK=>?_|apply T.block|apply T.skip|apply T.exit|refine T.zh rfl ?_|refine T.zg rfl ?_|refine T.cond rfl (fun hc=>?_) (fun hc=>?_)|apply T.ret|simp only [ze,z8,reduceIte,Nat.reduceEqDiff]|((repeat ((fail_if_success apply hK);clear hK K));apply hK;clear hK K))
 (refine T.reg (by kernel_rfl) fun K' hK'=>?_;simp only [bz];(with_reducible repeat' (first|(apply WL.fin;apply hK';clear hK' K')|(refine WL.step fun K2 hK2=>?_;simp only [simprocAttr,implies_true,amz,zf,tys,hrl,hd];repeat' (first|(apply hK2;clear hK2 K2)|apply And.intro|intro hb))));all_goals ((try simp only [ze,z8,reduceIte,Nat.reduceEqDiff]);(try ((repeat ((fail_if_success apply hK);clear hK K));apply hK;clear hK K))))
 repeat' (first|refine T.zk fun K hK=>?_|apply T.block|apply T.skip|apply T.exit|refine T.zh rfl ?_|refine T.zg rfl ?_|refine T.cond rfl (fun hc=>?_) (fun hc=>?_)|apply T.ret|simp only [ze,z8,reduceIte,Nat.reduceEqDiff]|((repeat ((fail_if_success apply hK);clear hK K));apply hK;clear hK K))
 (refine T.reg (by kernel_rfl) fun K' hK'=>?_;simp only [bz];(with_reducible repeat' (first|(apply WL.fin;apply hK';clear hK' K')|(refine WL.step fun K2 hK2=>?_;simp only [simprocAttr,implies_true,amz,zf,tys];repeat' (first|(apply hK2;clear hK2 K2)|apply And.intro|intro hb))));all_goals ((try simp only [ze,z8,reduceIte,Nat.reduceEqDiff]);(try ((repeat ((fail_if_success apply hK);clear hK K));apply hK;clear hK K))))
 repeat' (first|refine T.zk fun K hK=>?_|apply T.block|apply T.skip|apply T.exit|refine T.zh rfl ?_|refine T.zg rfl ?_|refine T.cond rfl (fun hc=>?_) (fun hc=>?_)|apply T.ret|simp only [ze,z8,reduceIte,Nat.reduceEqDiff]|((repeat ((fail_if_success apply hK);clear hK K));apply hK;clear hK K))
 refine T.reg (by kernel_rfl) fun K' hK'=>?_;simp only [bz]
 (with_reducible refine WL.step fun K2 hK2=>?_);simp only [simprocAttr,implies_true,amz,zf,tys];(repeat' (first|with_reducible (first|(apply hK2;clear hK2 K2)|apply And.intro|intro hb)))
 (with_reducible refine WL.step fun K2 hK2=>?_);simp only [simprocAttr,implies_true,amz,zf,tys]
 refine qg 8 _ _ [6] (Ent.of Tryz.func18 (by kernel_rfl) rfl) hkF ?_ ?_ ?_
 ·(refine ⟨Nat.le_of_ble_eq_true rfl,?_,?_⟩ <;> simp only [pz,reduceIte,Nat.reduceEqDiff,AV.okB,Nat.reduceLT,])
 ·simp [AV.okB]
 rintro hp' rr ⟨bm,rfl,rfl⟩
 have hsf:=z5X bm bp rs.length (mF l rs rs.length) (by omega)
 refine ⟨by simp [Kept,hpM,zq,AO.handle],?_⟩
 simp only [hpM] at hsf ⊢
 simp only [cz,ASt.qh,AO.keep,Nat.reduceLeDiff,reduceIte,Nat.reduceEqDiff,AV.qm]
 apply hK2;clear hK2 K2
 (with_reducible refine WL.step fun K2 hK2=>?_);simp only [simprocAttr,implies_true,amz,zf,tys]
 refine qg 8 _ _ [6] (Ent.of Tryz.func17 (by kernel_rfl) rfl) hsf ?_ ?_ ?_
 ·(refine ⟨Nat.le_of_ble_eq_true rfl,?_,?_⟩ <;> simp only [pz,reduceIte,Nat.reduceEqDiff,AV.okB,Nat.reduceLT,])
 ·simp [AV.okB,AV.qm]
 rintro hp' rr ⟨⟨ks,rfl,hks,hkl⟩,rfl⟩
 refine ⟨by simp [Kept,zq,AO.handle],?_⟩
 simp only [cz,ASt.qh,AO.keep,Nat.reduceLeDiff,reduceIte,Nat.reduceEqDiff,AV.qm]
 apply hK2;clear hK2 K2
 have hksl:(ks.map keyC).length=ks.length:=by simp
 (with_reducible refine WL.step fun K2 hK2=>?_);simp only [simprocAttr,implies_true,amz,zf,tys,hksl];(repeat' (first|with_reducible (first|(apply hK2;clear hK2 K2)|apply And.intro|intro hb)))
 (with_reducible refine WL.step fun K2 hK2=>?_);simp only [simprocAttr,implies_true,amz,zf,tys];(repeat' (first|with_reducible (first|(apply hK2;clear hK2 K2)|apply And.intro|intro hb)))
 (with_reducible refine WL.fin ?_);apply hK';clear hK' K';(try simp only [ze,z8,reduceIte,Nat.reduceEqDiff]);(try ((repeat ((fail_if_success apply hK);clear hK K));apply hK;clear hK K))
 obtain rfl:=z7v hkw hks
 obtain ⟨ks,hksd⟩ : ∃ ks,ks=z0Y (rs.map (keyR l)):=⟨_,rfl⟩
 have hk6 : ∀ x ∈ ks,x.length=6:=fun x hx=>z3x x ((z0A (n := 6) z3x x).1 (hksd ▸ hx))
 have hkat : ∀ (n:Nat) (k:List Int),ks[n]? = some k → ∃ r c,fndF (keyR l) k rs=some (r,c)∧r ∈ rs∧repK l ss ps rs k=repR l ss ps r c:=fun n k h=>z5M (hksd ▸ h)
 have hkwf : ∀ x ∈ ks,WfN 6 x:=fun x hx=>hkw x ((z0A (n := 6) z3x x).1 (hksd ▸ hx))
 have hxo:outM l ss ps rs=ks.map (repK l ss ps rs):=by rw [hx,outR,hksd]
 rw [← hksd] at hkl hksl ⊢
 clear hks hsf hkF
 refine T.weak (zi.frz _ 0) ?_;simp only [ASt.frz,List.filter_cons,List.filter_nil,bne_self_eq_false,Nat.reduceBneDiff,Bool.false_eq_true,simprocAttr,implies_true,amz,zf,]
 refine T.weak (zi.z3p _ 12 41 7 (show 12<117 by decide) rfl) ?_;simp only [ASt.add,z07,Nat.reduceAdd]
 repeat' (first|refine T.zk fun K hK=>?_|apply T.block|apply T.skip|apply T.exit|refine T.zh rfl ?_|refine T.zg rfl ?_|refine T.cond rfl (fun hc=>?_) (fun hc=>?_)|apply T.ret|simp only [ze,z8,reduceIte,Nat.reduceEqDiff]|((repeat ((fail_if_success apply hK);clear hK K));apply hK;clear hK K))
 refine T.z02 (fun n:Nat=>⟨[(2,.ptr 8 0),(6,.own 6),(12,.own 9),(100,.p (.seq 6 (ks.map keyC))),(101,.int ks.length),(102,.int n)],[(9,.row 41 7 (((ks.take n).map (repK l ss ps rs)).map repC)),(6,prM (some bp) rs.length (mF l rs rs.length)),(8,.boxP none 31 [.p (.seq 9 (l.map evC)),.p (.seq 2 (rowP ss)),.p (.seq 1 (rowZ ps))])],117,10⟩) (fun n=>n≤ks.length) (fun n=>ks.length-n) 0 (Nat.zero_le _) (by refine zi.of' rfl ?_;simp only [wks,reduceIte,Nat.reduceEqDiff,ASt.okB,AV.okB,Nat.reduceLT,implies_true,Int.natCast_zero,List.take_zero,List.map_nil]) ?_
 intro n hn KL hKL
 by_cases hnl:n<ks.length
 case neg =>
  have hdn:decide ((n:Int)<(ks.length:Int))=false:=by simpa using hnl
  obtain rfl:n=ks.length:=by omega
  rw [List.take_length]
  repeat' (first|refine T.zk fun K hK=>?_|apply T.block|(refine T.reg (by kernel_rfl) fun K' hK'=>?_;simp only [bz];(with_reducible repeat' (first|(apply WL.fin;apply hK';clear hK' K')|(refine WL.step fun K2 hK2=>?_;simp only [simprocAttr,implies_true,amz,zf,tys,hksl,hdn];repeat' (first|(apply hK2;clear hK2 K2)|apply And.intro|intro hb)))))|apply T.skip|apply T.exit|refine T.zh rfl ?_|refine T.zg rfl ?_|refine T.cond rfl (fun hc=>?_) (fun hc=>?_)|apply T.ret|simp only [ze,z8,reduceIte,Nat.reduceEqDiff]|((repeat ((fail_if_success apply hK);clear hK K));apply hK;clear hK K))
  refine zP.retW (.inr rfl) Tryz.results6 (zi.frz _ 9) ?_;simp only [zI,zu,zw,ASt.frz,ASt.subst,AO.z2j,AO.z2X,AO.z2T,AO.z2W,AO.z1h,AV.z6N,AV.z2S,AV.z2V,AV.z1M,AV.z2U,AV.z1L,AV.z1K,AV.z1J,AV.z3s,AV.z1N,List.filter_cons,List.filter_nil,bne_self_eq_false,Nat.reduceBneDiff,Nat.reduceEqDiff,Bool.false_eq_true,simprocAttr,implies_true,amz,zf,tys,hxo,hy]
 have hdn:decide ((n:Int)<(ks.length:Int))=true:=by simpa using hnl
 have hn0:(0≤(n:Int))=True:=eq_true (by omega)
 obtain ⟨k,hk⟩:=qA hnl
 obtain ⟨rr,cc,hfnd,hrr,hrep⟩:=hkat n k hk
 have hktk:(ks.take (n+1)).map (repK l ss ps rs)=(ks.take n).map (repK l ss ps rs) ++ [repR l ss ps rr cc]:=by
  rw [List.take_add_one,hk,Option.toList_some,List.map_append,List.map_cons,List.map_nil,hrep]
 have hkf:keyR l rr=k:=(z1a hfnd).2.2.2
 obtain ⟨e,f,h1,h2,h3,h5,h4⟩:=hrac rr hrr
 have hde:=z7c l ss ps hdw hsz hv rr cc e f h1 h2 h3
 rw [← h4,← h5,hkf] at hde
 have hkk:=hkwf k (List.mem_of_getElem? hk)
 have hat:=z2M z5c (mF l rs rs.length) hkk
 rw [show mF l rs rs.length k=some (foV (rr,cc)) by unfold mF;rw [List.take_length,hfnd];rfl] at hat
 have hww:=hkk.2
 obtain ⟨k1,k2,k3,k4,k5,k6,rfl⟩:=z1v hkk.1
 simp only [List.mem_cons,List.not_mem_nil,or_false,forall_eq_or_imp,forall_eq] at hww
 have hko:=z1F hww.1 hww.2.1 hww.2.2.1 hww.2.2.2.1 hww.2.2.2.2.1 hww.2.2.2.2.2
 have mk:=key_at hk
 have htl:(((ks.take n).map (repK l ss ps rs)).map repC).length=n:=by rw [List.length_map,List.length_map,List.length_take];omega
 have hb1:(n+1≤maxLen)=True:=eq_true (by unfold maxLen;omega)
 have hb2:((n+1)*88≤140737488355328)=True:=eq_true (by omega)
 simp only [trA,keyA,foA,repA,repC,yl] at hde
 repeat' (first|refine T.zk fun K hK=>?_|apply T.block|(refine T.reg (by kernel_rfl) fun K' hK'=>?_;simp only [bz];(with_reducible repeat' (first|(apply WL.fin;apply hK';clear hK' K')|(refine WL.step fun K2 hK2=>?_;simp only [simprocAttr,implies_true,amz,zf,tys,hksl,hdn,hn0,Int.toNat_natCast,mk];repeat' (first|(apply hK2;clear hK2 K2)|apply And.intro|intro hb)))))|apply T.skip|apply T.exit|refine T.zh rfl ?_|refine T.zg rfl ?_|refine T.cond rfl (fun hc=>?_) (fun hc=>?_)|apply T.ret|simp only [ze,z8,reduceIte,Nat.reduceEqDiff]|((repeat ((fail_if_success apply hK);clear hK K));apply hK;clear hK K))
 refine T.commT 9 [c0,some (0,1),some (0,1),some (0,1),some (0,1),some (0,1),c0,c0,none] (by kernel_rfl) (by kernel_rfl) fun K' hK'=>?_;simp only [yl,List.take_succ_cons,List.take_zero,List.zip_cons_cons,List.zip_nil_left,List.drop_succ_cons,List.drop_zero] at hK' ⊢;(repeat' (first|(with_reducible refine WC.fin ?_;apply hK';clear hK' K')|((first|(with_reducible refine WC.z0O fun K2 hK2=>?_)|(with_reducible refine WC.stepW fun K2 hK2=>?_));simp only [simprocAttr,implies_true,amz,zf,WCg,WCv,WOw,allP,dav,Chk,List.filter_cons,List.filter_nil,bne_self_eq_false,Nat.reduceBneDiff,Bool.false_eq_true,tys,hko,hat,qW,Option.getD_some,z4U,hm1,htl,hb1,hb2,List.length_cons,List.length_nil,Nat.zero_add];(repeat' (first|(with_reducible refine hK2 _ _ ?_;clear hK2 K2)|with_reducible (first|(apply hK2;clear hK2 K2)|apply And.intro|intro hb)|(with_reducible rfl)|((with_reducible show @Eq ASt _ _);rfl)|((with_reducible first|apply zl|apply zn);case h=>exact CallV.plain (Ent.of Tryz.func21 (by kernel_rfl) rfl) (hde) (by simp [AV.okB])))))));all_goals ((repeat' (first|(with_reducible refine WLW.fin ?_)|((with_reducible refine WLW.step fun K2 hK2=>?_);simp only [simprocAttr,implies_true,amz,zf,tys,hko,hat,qW,Option.getD_some,z4U,hm1,htl,hb1,hb2,List.length_cons,List.length_nil,Nat.zero_add];(repeat' (first|with_reducible (first|(apply hK2;clear hK2 K2)|apply And.intro|intro hb)|((with_reducible first|apply zl|apply zn);case h=>exact CallV.plain (Ent.of Tryz.func21 (by kernel_rfl) rfl) (hde) (by simp [AV.okB])))))));all_goals ((try simp only [ze,z8,reduceIte,Nat.reduceEqDiff]);(try ((repeat ((fail_if_success apply hK);clear hK K));apply hK;clear hK K))))
 all_goals repeat' (first|refine T.zk fun K hK=>?_|apply T.block|(refine T.reg (by kernel_rfl) fun K' hK'=>?_;simp only [bz];(with_reducible repeat' (first|(apply WL.fin;apply hK';clear hK' K')|(refine WL.step fun K2 hK2=>?_;simp only [simprocAttr,implies_true,amz,zf,tys];repeat' (first|(apply hK2;clear hK2 K2)|apply And.intro|intro hb)))))|apply T.skip|apply T.exit|refine T.zh rfl ?_|refine T.zg rfl ?_|refine T.cond rfl (fun hc=>?_) (fun hc=>?_)|apply T.ret|simp only [ze,z8,reduceIte,Nat.reduceEqDiff]|((repeat ((fail_if_success apply hK);clear hK K));apply hK;clear hK K))
 refine hKL _ (n+1) ((zi.ren _ 11 9).trans (by refine zi.of' rfl ?_;simp only [wks,reduceIte,Nat.reduceEqDiff,ASt.okB,AV.okB,Nat.reduceLT,implies_true,ASt.ren,AV.zZ,AV.zG,AV.qd,AV.qw,AV.zW,AV.zF,AV.zA,AV.qc,AV.qO,AV.zD,AV.qx,AO.qD,AO.qG,AO.qE,AO.qF,yl,List.filter_cons,List.filter_nil,zq,qp,Nat.reduceBneDiff,bne_self_eq_false,Bool.and_false,Bool.false_and,Bool.false_eq_true,ne_eq,not_false_eq_true,not_true_eq_false,and_self,and_false,zx (show n<1152921504606846976 by omega),hktk,List.map_append,yl,repC])) hnl (by omega)
end Go.Proofs.YtbkkginjfnjffaaGreatDoor
