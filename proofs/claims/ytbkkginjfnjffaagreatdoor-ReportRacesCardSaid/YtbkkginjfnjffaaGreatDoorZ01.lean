/- Texts Lib, Inv, Qm, Own, Rel, Rp, Dr, Aa, Ab, Ac. -/
import Derived.Test.YtbkkginjfnjffaaGreatDoorRows
import Derived.WalkKit
import Derived.WalkSpells
import Derived.WalkLawsBesides
import Derived.Lib.Hide
import Derived.Lib.QuietBelow
import Derived.BigQuiet
import Derived.StillTail
import Derived.Deep.Draws
import Derived.Maps.Own
import Derived.Maps.OwnSet
import Derived.Maps.Views
import Derived.Maps.Range
import Derived.TacticsIn
import Derived.OrdersIn
import Derived.LoopIn
import Derived.RangeFuncOwn
import Derived.Deep.MidRow
set_option maxHeartbeats 32000000
set_option maxRecDepth 100000
set_option linter.unusedSimpArgs false
set_option linter.unusedVariables false
namespace Go.Proofs.YtbkkginjfnjffaaGreatDoor
open Go.RowKit Go.Sort
def gw (w:World) (p:Regrown):World:=grow (redrawn w p.d) p.os
theorem z3h (w:World) (p:Regrown):Below w.heap.size w (gw w p):=below_regrown w p.d p.os
theorem z2K {w w' : World} (h:Below w.heap.size w w') : ∃ p:Regrown,w' = gw w p:=regrown_of_below h
def Old (b:Nat) (w:World):Prop:=b<w.heap.size
theorem Old.lt {b:Nat} {w:World} (h:Old b w):b<w.heap.size:=h
theorem Old.of_cell {w:World} {a:Addr} {v:Value} (h:w.cell? a=some v):Old a.block w:=block_lt_of_cell h
@[go_sem,simp] theorem gw_size (w:World) (p:Regrown):(gw w p).heap.size=w.heap.size+p.os.size:=by simp [gw,grow,redrawn]
def OldIn (b:Nat) (w:World) (p:Regrown):Prop:=w.heap.size≤b∧b<w.heap.size+p.os.size
@[go_sem] theorem old_alloc (w:World) (o:Obj) (b:Nat):Old b (w.alloc o)=(b=w.heap.size∨Old b w):=by simp [Old];omega
@[go_sem] theorem old_gw (w:World) (p:Regrown) (b:Nat):Old b (gw w p)=(Old b w∨OldIn b w p):=by simp [Old,OldIn];omega
@[go_sem] theorem old_setCell (w:World) (a:Addr) (v:Value) (b:Nat):Old b (w.setCell a v)=Old b w:=by simp [Old]
@[go_sem] theorem old_setRow (w:World) (g:Nat) (cs:Array Value) (b:Nat):Old b (w.setRow g cs)=Old b w:=by simp [Old]
@[go_sem] theorem old_drew (w:World) (b:Nat):Old b w.drew=Old b w:=by simp [Old]
@[go_sem] theorem gw_cell (w:World) (p:Regrown) (b o:Nat) (h:Old b w):(gw w p).cell? ⟨b,o,none⟩=w.cell? ⟨b,o,none⟩:=(z3h w p).cell (p:=⟨b,o,none⟩) h.lt
@[go_sem] theorem gw_frozen (w:World) (p:Regrown) (b o:Nat) (h:Old b w):(gw w p).frozen? ⟨b,o,none⟩=w.frozen? ⟨b,o,none⟩:=(z3h w p).frozen (p:=⟨b,o,none⟩) h.lt
@[go_sem] theorem alloc_cell (w:World) (ob:Obj) (b o:Nat) (h:Old b w):(w.alloc ob).cell? ⟨b,o,none⟩=w.cell? ⟨b,o,none⟩:=World.cell?_alloc_past ob b o h.lt
@[go_sem] theorem alloc_frozen (w:World) (ob:Obj) (b o:Nat) (h:Old b w):(w.alloc ob).frozen? ⟨b,o,none⟩=w.frozen? ⟨b,o,none⟩:=World.frozen?_alloc_past ob b o h.lt
@[go_sem] theorem alloc_setCell (w:World) (ob:Obj) (b o:Nat) (v:Value) (h:Old b w):(w.alloc ob).setCell ⟨b,o,none⟩ v=(w.setCell ⟨b,o,none⟩ v).alloc ob:=World.setCell_alloc_past ob b o v h.lt
theorem z7f (w:World) (p:Regrown) (b:Nat) (h:b<w.heap.size):(gw w p).heap[b]? = w.heap[b]?:=(z3h w p).block b h
@[go_sem] theorem heap_gw (w:World) (p:Regrown) (b:Nat) (h:Old b w):(gw w p).heap[b]? = w.heap[b]?:=z7f w p b h.lt
@[go_sem] theorem qR (w:World) (o:Obj) (b:Nat) (h:b=w.heap.size):(w.alloc o).heap[b]? = some o:=by subst h;exact heap_alloc_new w o
@[go_sem] theorem z98 (w:World) (o:Obj) (b:Nat) (h:Old b w):(w.alloc o).heap[b]? = w.heap[b]?:=heap_alloc_old w o h.lt
@[go_sem] theorem gw_setCell (w:World) (p:Regrown) (b o:Nat) (v:Value) (h:Old b w):(gw w p).setCell ⟨b,o,none⟩ v=gw (w.setCell ⟨b,o,none⟩ v) p:=by
 simp only [gw,grow,redrawn,World.setCell]
 rw [modify_append_left _ _ _ _ h.lt]
@[go_sem] theorem gw_drew (w:World) (p:Regrown):(gw w p).drew=gw w ⟨p.d+1,p.os⟩:=rfl
theorem gw_gw (w:World) (p q:Regrown):gw (gw w p) q=gw w ⟨q.d,p.os++q.os⟩:=by
 simp only [gw,redrawn,grow,Array.append_assoc]
theorem z1X (w:World):w=gw w ⟨w.drawn,#[]⟩:=by simp [gw,redrawn,grow]
theorem gw_two (w:World) (p q:Regrown) : ∃ r:Regrown,gw (gw w p) q=gw w r:=⟨_,gw_gw w p q⟩
theorem setRow_gw (w:World) (p:Regrown) (b:Nat) (cs:Array Value) (h:Old b w):(gw w p).setRow b cs=gw (w.setRow b cs) p:=by
 simp only [gw,grow,redrawn,World.setRow]
 rw [modify_append_left _ _ _ _ h.lt]
theorem z4K (w:World) (c cs:Array Value) (t:TypeId) (n:Nat) (h:n=w.heap.size):(w.alloc (.cells c t)).setRow n cs=w.alloc (.cells cs t):=by
 subst h
 simp only [World.alloc,World.setRow]
 congr 1
 apply Array.ext_getElem?
 intro k
 simp only [Array.getElem?_modify,Array.getElem?_push]
 by_cases hk:k=w.heap.size
 ·subst hk;simp
 ·have : ¬ w.heap.size=k:=fun e=>hk e.symm
  simp [hk,this]
theorem z3C (w:World) (o:Obj) (cs:Array Value) (n:Nat) (h:Old n w):(w.alloc o).setRow n cs=(w.setRow n cs).alloc o:=by
 simp only [World.alloc,World.setRow]
 congr 1
 apply Array.ext_getElem?
 intro k
 simp only [Array.getElem?_modify,Array.getElem?_push,Array.size_modify]
 by_cases hk:k=w.heap.size
 ·subst hk;have : ¬ n=w.heap.size:=by have:=h.lt;omega
  simp [this]
 ·simp [hk]
attribute [go_sem] setRow_gw z4K z3C
def Gives (v:Value) (w:World) (e:Ending) (w' : World):Prop:=e = .returned v ∧ ∃ p:Regrown,w' = gw w p
theorem Gives.mk {v u:Value} {w w' : World} (hv:u=v) (h:Below w.heap.size w w'):Gives v w (.returned u) w':=⟨by rw [hv],z2K h⟩
theorem Gives.call {P:Program} {f:FuncId} {args:Array Value} {w:World} {p:Regrown} {v:Value}
  (h:Calls P f args (gw w p) (Gives v (gw w p))):Calls P f args (gw w p) fun e w''=>e = .returned v ∧ ∃ q:Regrown,w'' = gw w q :=
 h.mono fun _ _ ⟨he,q,hq⟩=>⟨he,⟨q.d,p.os++q.os⟩,by rw [hq,gw_gw]⟩
theorem Same.call {P:Program} {f:FuncId} {args:Array Value} {w:World} {p:Regrown} {v:Value}
  (h:Calls P f args (gw w p) fun e w'=>e = .returned v∧gw w p=w'):Calls P f args (gw w p) fun e w''=>e = .returned v ∧ ∃ q:Regrown,w'' = gw w q :=
 h.mono fun _ _ ⟨he,hq⟩=>⟨he,p,hq.symm⟩
def left (listed:Array Bool):Nat:=(listed.toList.filter (fun b => !b)).length
theorem z7T {listed:Array Bool} {i:Nat} (h:listed.getD i true=false):left (listed.setIfInBounds i true)+1=left listed:=by
 have hi:i<listed.size:=by
  rcases Nat.lt_or_ge i listed.size with h'|h'
  ·exact h'
  ·simp [Array.getElem?_eq_none h'] at h
 unfold left
 rw [Array.toList_setIfInBounds]
 have hv:listed.toList[i]? = some false:=by simpa [hi] using h
 generalize listed.toList=l at *
 clear h hi
 induction l generalizing i with
 | nil=>simp at hv
 | cons x l ih =>
  cases i with
  | zero=>simp at hv;subst hv;simp
  | succ i =>
   have h:=ih (i:=i) (by simpa using hv)
   cases x <;> simp <;> omega
theorem z1s {md:Region.Mode} {ops:Array Oper} {listed:Array Bool} (h:left listed=0):Region.ready md ops listed = []:=by
 unfold Region.ready
 rw [List.filter_eq_nil_iff]
 intro i _ hc
 simp only [Bool.and_eq_true,Bool.not_eq_true'] at hc
 have hf:=hc.1
 have:=z7T hf
 omega
theorem z4S {P:Program} {md:Region.Mode} {ops:Array Oper} {Q:Exit→Act→World→Prop} (I:Array Bool→Act→World→Prop)
  (step : ∀ listed a w i,I listed a w→i ∈ Region.ready md ops listed→wpOp P ops Q i (I (listed.setIfInBounds i true)) a w)
  (done : ∀ listed a w,I listed a w→Region.ready md ops listed = []→Q .normal a w) :
  ∀ (fuel:Nat) (listed:Array Bool) (a:Act) (w:World),left listed≤fuel→I listed a w→wpAny P md ops Q fuel listed a w
 | 0,listed,a,w,hf,h=>⟨z1s (by omega),done _ _ _ h (z1s (by omega))⟩
 | fuel+1,listed,a,w,hf,h=>⟨fun hr=>done _ _ _ h hr,fun i hi=>wpOp_mono (fun a' w' h'=>z4S I step done fuel _ a' w' (by have:=z7T (mem_ready.1 hi).1;omega) h') (step _ _ _ _ h hi)⟩
def z4w (P:Program) (w:World) (v:Value):Result Next→Prop
 | .ok (.value u) w'=>w' = w∧u=v
 | .ok .skip w'=>w' = w∧v=undef
 | .ok (.enter f args) w'=>w' = w∧Calls P f args w (Gives v w)
 | _=>False
def gqAt (P:Program) (o:Oper) (a:Act) (w:World) (v:Value):Prop:=z4w P w v ((execOp a.eval o).run P w)
def z4x (P:Program) (o:Oper) (a:Act) (W:World) (next:Act→Prop):Prop := ∃ v,(∀ p:Regrown,gqAt P o a (gw W p) v)∧next (a.put o.dst v)
def wpG (P:Program) (ops:Array Oper) (W:World) (R:Act→Prop):List Oper→Act→Prop
 | [],a=>R a
 | o :: rest,a=>if Region.wanted o (yielded ops a.tmps) then z4x P o a W (wpG P ops W R rest) else wpG P ops W R rest (a.put o.dst undef)
attribute [go_sem] z4x gqAt z4w
theorem z7z {P:Program} {ops:Array Oper} {W:World} {R:Act→Prop} {a:Act} (h:R a):wpG P ops W R [] a:=h
theorem z6c {P:Program} {ops:Array Oper} {W:World} {R:Act→Prop} {a:Act} {o:Oper} {rest:List Oper}
  (h : ∀ K:Act→Prop,(∀ a,wpG P ops W R rest a→K a)→if Region.wanted o (yielded ops a.tmps) then z4x P o a W K else K (a.put o.dst undef)):wpG P ops W R (o :: rest) a:=h _ (fun _ h=>h)
def makes (P:Program) (o:Oper) (a:Act) (w:World) (f:Nat→Value) (ob:Obj):Prop:=(execOp a.eval o).run P w = .ok (.value (f w.heap.size)) (w.alloc ob)
def z1z (P:Program) (ops:Array Oper) (W:World) (A:Act):List Oper→List ((Nat→Value) × Obj)→Prop
 | [],[]=>True
 | o :: r,(f,ob) :: s=>Region.wanted o (yielded ops A.tmps)=true∧(∀ p:Regrown,makes P o A (gw W p) f ob)∧z1z P ops W A r s
 | _,_=>False
def z1l:List Oper→List ((Nat→Value) × Obj)→List Nat→Act→Act
 | o :: r,(f,_) :: s,b :: bs,acc=>z1l r s bs (acc.put o.dst (f b))
 | _,_,_,acc=>acc
def z3i:List ((Nat→Value) × Obj)→List Nat→World→Prop
 | (_,ob) :: s,b :: bs,w=>w.heap[b]? = some ob∧z3i s bs w
 | _,_,_=>True
def slot (a:Act) (t:Tmp):Value:=a.tmps.getD t undef
theorem qi (a:Act) (d t:Tmp) (v:Value) (hd:d<a.tmps.size):slot (a.put (some d) v) t=if t=d then v else slot a t:=by
 unfold slot Act.put
 by_cases h:t=d
 ·subst h;simp [hd]
 ·simp [h,Array.getElem?_setIfInBounds_ne (fun e:d=t=>h e.symm)]
theorem size_put (a:Act) (d:Option Tmp) (v:Value):(a.put d v).tmps.size=a.tmps.size:=by cases d <;> simp [Act.put]
theorem z1o (a:Act) (d:Option Tmp) (v:Value):(a.put d v).defers=a.defers:=by cases d <;> rfl
theorem z5o {a b:Act} (h1:a.tmps.size=b.tmps.size) (h2:a.defers=b.defers) (h3 : ∀ t,slot a t=slot b t):a=b:=by
 obtain ⟨ta,da⟩:=a
 obtain ⟨tb,db⟩:=b
 simp only at h1 h2
 subst h2
 congr 1
 apply Array.ext h1
 intro i hi hj
 have:=h3 i
 simpa [slot,hi,hj] using this
theorem z0p {ops:Array Oper} {o:Oper} {a b:Act} (h : ∀ x ∈ o.looksAt ops,slot a x=slot b x) : ∀ x ∈ o.op.operands,a.eval x=b.eval x:=by
 intro x hx
 cases x with
 | tmp t=>exact h t (List.mem_append_left _ (List.mem_filterMap.2 ⟨.tmp t,by simpa using hx,rfl⟩))
 | _=>rfl
theorem z06 {ops:Array Oper} {o:Oper} {a b:Act} (hs:a.tmps.size=b.tmps.size) (h : ∀ x ∈ o.looksAt ops,slot a x=slot b x):Region.wanted o (yielded ops a.tmps)=Region.wanted o (yielded ops b.tmps):=by
 unfold Region.wanted
 cases hg:o.guard with
 | none=>rfl
 | some gw =>
  obtain ⟨g,want⟩:=gw
  have hy:yielded ops a.tmps g=yielded ops b.tmps g:=by
   unfold yielded
   cases ht:(ops[g]?).bind (·.dst) with
   | none=>rfl
   | some t =>
    have hx:=h t (List.mem_append_right _ (by simp [hg,ht]))
    have:a.tmps[t]? = b.tmps[t]?:=by
     by_cases hlt:t<a.tmps.size
     ·have hlt' : t<b.tmps.size:=hs ▸ hlt
      simp only [slot,Array.getD_eq_getD_getElem?,Array.getElem?_eq_getElem hlt,Array.getElem?_eq_getElem hlt',Option.getD_some] at hx
      rw [Array.getElem?_eq_getElem hlt,Array.getElem?_eq_getElem hlt',hx]
     ·rw [Array.getElem?_eq_none (Nat.le_of_not_lt hlt),Array.getElem?_eq_none (hs ▸ Nat.le_of_not_lt hlt)]
    simp [this]
  simp [hy]
def dstsOf (l:List Oper):List Tmp:=l.filterMap (·.dst)
def okQ (ops:Array Oper) (all:List Tmp) (size:Nat):List Oper→List Tmp→Bool
 | [],_=>true
 | o :: r,bef=>match o.dst with
  | none=>false
  | some d=>decide (d<size) && !bef.contains d && !(dstsOf r).contains d&&(o.looksAt ops).all (fun x => !all.contains x||bef.contains x)&&okQ ops all size r (d :: bef)
def opAt (P:Program) (ops:Array Oper) (W:World) (o:Oper) (B:Act) (v:Value):Prop :=
 if Region.wanted o (yielded ops B.tmps)=true then ∀ p:Regrown,gqAt P o B (gw W p) v else v=undef
theorem z2m {P:Program} {ops:Array Oper} {W:World} {R:Act→Prop} {all:List Tmp} : ∀ (lq:List Oper) (bef:List Tmp) (a:Act),okQ ops all a.tmps.size lq bef=true→(∀ t,t ∈ bef∨t ∈ dstsOf lq→t ∈ all)→wpG P ops W R lq a →
  ∃ (ν:Tmp→Value) (A:Act),(∀ t,t ∈ bef → ν t=slot a t)∧R A∧A.defers=a.defers∧A.tmps.size=a.tmps.size∧(∀ t,slot A t=if t ∈ dstsOf lq then ν t else slot a t) ∧
   ∀ o ∈ lq,∃ d,o.dst=some d ∧ ∃ B,B.tmps.size=a.tmps.size∧opAt P ops W o B (ν d) ∧ ∀ x ∈ o.looksAt ops,slot B x=if x ∈ bef∨x ∈ dstsOf lq then ν x else slot a x
 | [],bef,a,_,_,h=>⟨slot a,a,fun _ _=>rfl,h,rfl,rfl,fun t=>by simp [dstsOf],fun o ho=>by cases ho⟩
 | o :: r,bef,a,hB,hall,h=>by
  cases hd:o.dst with
  | none=>simp [okQ,hd] at hB
  | some d =>
   simp only [okQ,hd,Bool.and_eq_true,decide_eq_true_eq,Bool.not_eq_true',List.all_eq_true,Bool.or_eq_true] at hB
   obtain ⟨⟨⟨⟨hsz,hnb⟩,hnr⟩,hlook⟩,hrest⟩:=hB
   have hnb' : d ∉ bef:=by simpa using hnb
   have hnr' : d ∉ dstsOf r:=by simpa using hnr
   have hds:dstsOf (o :: r)=d :: dstsOf r:=by simp [dstsOf,hd]
   have hall' : ∀ t,t ∈ d :: bef∨t ∈ dstsOf r→t ∈ all:=by
    intro t ht
    apply hall
    rw [hds]
    simp only [List.mem_cons] at ht ⊢
    rcases ht with (h|h)|h
    ·exact .inr (.inl h)
    ·exact .inl h
    ·exact .inr (.inr h)
   have key : ∃ v,opAt P ops W o a v∧wpG P ops W R r (a.put (some d) v):=by
    simp only [wpG] at h
    by_cases hw:Region.wanted o (yielded ops a.tmps)=true
    ·rw [if_pos hw] at h
     obtain ⟨v,h1,h2⟩:=h
     exact ⟨v,by unfold opAt;rw [if_pos hw];exact h1,by rw [← hd];exact h2⟩
    ·rw [if_neg hw] at h
     exact ⟨undef,by unfold opAt;rw [if_neg hw],by rw [← hd];exact h⟩
   obtain ⟨v,hop,hnext⟩:=key
   obtain ⟨ν,A,h1,h2,h3,h4,h5,h6⟩:=z2m r (d :: bef) (a.put (some d) v) (by rw [size_put];exact hrest) hall' hnext
   have hνd : ν d=v:=by rw [h1 d (List.mem_cons.2 (.inl rfl)),qi a d d v hsz,if_pos rfl]
   have hνb : ∀ t,t ∈ bef → ν t=slot a t:=by
    intro t ht
    rw [h1 t (List.mem_cons.2 (.inr ht)),qi a d t v hsz,if_neg (fun e:t=d=>hnb' (e ▸ ht))]
   refine ⟨ν,A,hνb,h2,h3.trans (z1o _ _ _),h4.trans (size_put _ _ _),fun t=>?_,fun o' ho'=>?_⟩
   ·rw [h5 t,hds]
    by_cases ht:t ∈ dstsOf r
    ·rw [if_pos ht,if_pos (List.mem_cons.2 (.inr ht))]
    ·rw [if_neg ht,qi a d t v hsz]
     by_cases e:t=d
     ·subst e;rw [if_pos rfl,if_pos (List.mem_cons.2 (.inl rfl)),hνd]
     ·rw [if_neg e,if_neg (fun h=>(List.mem_cons.1 h).elim e ht)]
   ·rcases List.mem_cons.1 ho' with rfl|ho''
    ·refine ⟨d,hd,a,rfl,by rw [hνd];exact hop,fun x hx=>?_⟩
     split
     ·rename_i hin
      have hxa:=hall x hin
      have:=hlook x hx
      rcases this with h'|h'
      ·simp [hxa] at h'
      ·exact (hνb x (by simpa using h')).symm
     ·rfl
    ·obtain ⟨d',hd',B,hBs,hop',hlk⟩:=h6 o' ho''
     refine ⟨d',hd',B,hBs.trans (size_put _ _ _),hop',fun x hx=>?_⟩
     rw [hlk x hx,hds]
     by_cases hx1:x ∈ d :: bef∨x ∈ dstsOf r
     ·rw [if_pos hx1,if_pos]
      rcases hx1 with h|h
      ·rcases List.mem_cons.1 h with e|e
       ·exact .inr (List.mem_cons.2 (.inl e))
       ·exact .inl e
      ·exact .inr (List.mem_cons.2 (.inr h))
     ·rw [if_neg hx1,qi a d x v hsz,if_neg (fun e=>hx1 (.inl (List.mem_cons.2 (.inl e)))),if_neg]
      rintro (h|h)
      ·exact hx1 (.inl (List.mem_cons.2 (.inr h)))
      ·rcases List.mem_cons.1 h with e|e
       ·exact hx1 (.inl (List.mem_cons.2 (.inl e)))
       ·exact hx1 (.inr e)
def qb (l:List Oper) (n:Nat) (ms:List Nat):List Oper:=((List.range n).filter (fun i => !ms.contains i)).filterMap (l[·]?)
def zR (l:List Oper) (ms:List Nat):List Oper:=ms.filterMap (l[·]?)
def headB (ops:Array Oper) (n:Nat) (ms:List Nat) (size:Nat):Bool :=
 let all:=dstsOf (qb ops.toList n ms)
 let mk:=dstsOf (zR ops.toList ms)
 okQ ops all size (qb ops.toList n ms) []&&ms.all (fun m=>decide (m<n)) &&
 (zR ops.toList ms).all (fun o=>match o.dst with|none=>false|some d=>decide (d<size) && !all.contains d)&&mk.eraseDups.length==mk.length &&
 (List.range n).all (fun i=>match ops[i]? with
  | none=>false
  | some o=>(o.looksAt ops).all (fun x => !mk.contains x&&(!all.contains x||o.after.any (fun e=>Region.binds .any e&&((ops[e.on]?).bind (·.dst))==some x&&decide (e.on<n) && !ms.contains e.on))))
theorem qo {l:List Oper} {t:Tmp} : t ∈ dstsOf l ↔ ∃ o ∈ l,o.dst=some t:=by simp [dstsOf]
theorem z0C {ops:Array Oper} {n:Nat} {ms:List Nat} {o:Oper} : o ∈ qb ops.toList n ms ↔ ∃ i,i<n∧i ∉ ms∧ops[i]? = some o:=by
 simp [qb,List.mem_filterMap,and_assoc]
theorem qI {ops:Array Oper} {ms:List Nat} {o:Oper} : o ∈ zR ops.toList ms ↔ ∃ i,i ∈ ms∧ops[i]? = some o:=by
 simp [zR,List.mem_filterMap]
def qa (listed:Array Bool) (n:Nat):Nat:=((List.range n).filter (fun i => !listed.getD i true)).length
theorem z1Y {listed:Array Bool} {n i:Nat} (hi:i<n) (h:listed.getD i true=false):qa (listed.setIfInBounds i true) n<qa listed n:=by
 have key : ∀ l:List Nat,l.Nodup→(l.filter (fun j => !(listed.setIfInBounds i true).getD j true)).length+(if i ∈ l then 1 else 0)=(l.filter (fun j => !listed.getD j true)).length:=by
  intro l
  induction l with
  | nil=>intro _;simp
  | cons x l ih =>
   intro hnd
   have ⟨hx,hnd'⟩:=List.nodup_cons.1 hnd
   have ih':=ih hnd'
   by_cases e:i=x
   ·subst e
    rw [if_neg hx] at ih'
    rw [if_pos (by simp)]
    have h1:(listed.setIfInBounds i true).getD i true=true:=by
     rcases Nat.lt_or_ge i listed.size with h'|h'
     ·simp [h']
     ·simp [h']
    simp only [List.filter_cons,h1,h,Bool.not_true,Bool.not_false,Bool.false_eq_true,if_false,if_true,List.length_cons]
    omega
   ·have h1:(listed.setIfInBounds i true).getD x true=listed.getD x true:=getD_set_ne true e
    have h2:(i ∈ x :: l)=(i ∈ l):=by simp [e]
    simp only [List.filter_cons,h1,h2]
    split
    ·simp only [List.length_cons];omega
    ·exact ih'
 have:=key (List.range n) List.nodup_range
 rw [if_pos (List.mem_range.2 hi)] at this
 unfold qa
 omega
def qV (size n:Nat):Array Bool:=((List.range size).map (fun i=>decide (i<n))).toArray
theorem z0v {ops:Array Oper} {n:Nat} {listed:Array Bool} (inv:HeadInv .any ops n listed) (h:qa listed n=0):listed=qV ops.size n:=by
 have hall : ∀ i,i<n→listed.getD i true=true:=by
  intro i hi
  cases hb:listed.getD i true with
  | true=>rfl
  | false =>
   have:i ∈ (List.range n).filter (fun i => !listed.getD i true):=by rw [List.mem_filter];exact ⟨List.mem_range.2 hi,by rw [hb];rfl⟩
   unfold qa at h
   rw [List.length_eq_zero_iff.1 h] at this
   cases this
 apply Array.ext
 ·simp [qV,inv.size]
 ·intro i h1 h2
  simp only [qV,List.getElem_toArray,List.getElem_map,List.getElem_range]
  by_cases hi:i<n
  ·have:=hall i hi
   simpa [h1,hi] using this
  ·have:=inv.tail i (by omega) (by rw [← inv.size];exact h1)
   simpa [h1,hi] using this
theorem z0l {P:Program} {ops:Array Oper} {Q:Exit→Act→World→Prop} {n g:Nat} (I:Array Bool→Act→World→Prop) (inv : ∀ listed a w,I listed a w→HeadInv .any ops n listed)
  (hwait : ∀ listed,HeadInv .any ops n listed→qa listed n ≠ 0→Region.ready .any ops listed ≠ [] ∧ ∀ i ∈ Region.ready .any ops listed,i<n)
  (step : ∀ listed a w i,I listed a w→i<n→i ∈ Region.ready .any ops listed→wpOp P ops Q i (I (listed.setIfInBounds i true)) a w)
  (done : ∀ listed a w,I listed a w→qa listed n=0 → ∀ f,g≤f→wpAny P .any ops Q f listed a w) :
  ∀ (f:Nat) (listed:Array Bool) (a:Act) (w:World),qa listed n+g≤f→I listed a w→wpAny P .any ops Q f listed a w
 | 0,listed,a,w,hf,h=>done _ _ _ h (by omega) _ (by omega)
 | f+1,listed,a,w,hf,h=>by
  by_cases h0:qa listed n=0
  ·exact done _ _ _ h h0 _ (by omega)
  ·obtain ⟨h1,h2⟩:=hwait listed (inv _ _ _ h) h0
   refine ⟨fun e=>absurd e h1,fun i hi=>?_⟩
   refine wpOp_mono (fun a' w' h'=>z0l I inv hwait step done f _ a' w' ?_ h') (step _ _ _ i h (h2 i hi) hi)
   have:=z1Y (h2 i hi) (mem_ready.1 hi).1
   omega
theorem z0m {P:Program} {ops:Array Oper} {Q:Exit→Act→World→Prop} : ∀ (f:Nat) (k:Nat) (listed:Array Bool) (a:Act) (w:World),wpAny P .any ops Q f listed a w→wpAny P .any ops Q (f+k) listed a w
 | 0,0,_,_,_,h=>h
 | 0,k+1,listed,a,w,h=>by
  rw [Nat.zero_add]
  exact ⟨fun _=>h.2,fun i hi=>by rw [h.1] at hi;cases hi⟩
 | f+1,k,listed,a,w,h=>by
  rw [show f+1+k=(f+k)+1 by omega]
  exact ⟨h.1,fun i hi=>wpOp_mono (fun a' w' h'=>z0m f k _ a' w' h') (h.2 i hi)⟩
def z4o (ops:Array Oper) (n:Nat):Bool:=(List.range n).all (fun i=>(List.range n).all (fun j=>i==j||((ops[i]?).bind (·.dst)) != ((ops[j]?).bind (·.dst))))
def qmB (ops:Array Oper) (n:Nat) (ms:List Nat) (size:Nat):Bool :=
 headB ops n ms size&&Region.noSelect ops&&z4o ops n&&decide (n≤ops.size) &&
 (List.range n).all (fun i=>match ops[i]? with|none=>false|some o=>o.after.all (fun e => !Region.binds .any e||decide (e.on<i))) &&
 (decide (n=ops.size)||(Region.sinkB .any ops n&&Region.chainB .any ops n))&&Region.seqB .any ops (ops.size-n) n (qV ops.size n)
theorem z4E {P:Program} {ops:Array Oper} {W:World} {A:Act} : ∀ (lm:List Oper) (fs:List ((Nat→Value) × Obj)),(∀ o ∈ lm,∃ d,o.dst=some d)→(dstsOf lm).Nodup→z1z P ops W A lm fs →
  ∃ (F:Tmp→Nat→Value) (O:Tmp→Obj),(∀ o ∈ lm,∀ d,o.dst=some d→Region.wanted o (yielded ops A.tmps)=true ∧ ∀ p:Regrown,makes P o A (gw W p) (F d) (O d)) ∧
   ∀ (β:Tmp→Nat) (acc:Act),(∀ d,d ∈ dstsOf lm→d<acc.tmps.size) → ∀ t,slot (z1l lm fs ((dstsOf lm).map β) acc) t=if t ∈ dstsOf lm then F t (β t) else slot acc t
 | [],[],_,_,_=>⟨fun _ _=>undef,fun _=>default,fun o h=>(by cases h),fun β acc _ t=>by simp [z1l,dstsOf]⟩
 | [],_ :: _,_,_,h=>h.elim
 | _ :: _,[],_,_,h=>h.elim
 | o :: r,(f,ob) :: s,hd,hn,h=>by
  obtain ⟨d,hdo⟩:=hd o (List.mem_cons.2 (.inl rfl))
  have hds:dstsOf (o :: r)=d :: dstsOf r:=by simp [dstsOf,hdo]
  rw [hds] at hn
  obtain ⟨hnd,hn'⟩:=List.nodup_cons.1 hn
  obtain ⟨h1,h2,h3⟩:=h
  obtain ⟨F,O,k1,k2⟩:=z4E r s (fun o' ho'=>hd o' (List.mem_cons.2 (.inr ho'))) hn' h3
  refine ⟨fun t=>if t=d then f else F t,fun t=>if t=d then ob else O t,fun o' ho' d' hd'=>?_,fun β acc hsz t=>?_⟩
  ·rcases List.mem_cons.1 ho' with rfl|ho''
   ·have e:d' = d:=Option.some.inj (hd'.symm.trans hdo)
    subst e
    simp only [if_true]
    exact ⟨h1,h2⟩
   ·have hne:d' ≠ d:=fun e=>hnd (by rw [← e];exact qo.2 ⟨o',ho'',hd'⟩)
    simp only [if_neg hne]
    exact k1 o' ho'' d' hd'
  ·rw [hds]
   simp only [List.map_cons,z1l,hdo]
   rw [k2 β (acc.put (some d) (f (β d))) (fun d' hd'=>by rw [size_put];exact hsz d' (by rw [hds];exact List.mem_cons.2 (.inr hd'))) t]
   have hsd:d<acc.tmps.size:=hsz d (by rw [hds];exact List.mem_cons.2 (.inl rfl))
   by_cases e:t=d
   ·subst e
    rw [if_neg hnd,qi acc t t _ hsd,if_pos rfl,if_pos (List.mem_cons.2 (.inl rfl)),if_pos rfl]
   ·by_cases ht:t ∈ dstsOf r
    ·rw [if_pos ht,if_pos (List.mem_cons.2 (.inr ht)),if_neg e]
    ·rw [if_neg ht,qi acc d t _ hsd,if_neg e,if_neg (fun h=>(List.mem_cons.1 h).elim e ht)]
theorem z10 : ∀ (lm:List Oper) (fs:List ((Nat→Value) × Obj)) (bs:List Nat) (acc:Act),(z1l lm fs bs acc).tmps.size=acc.tmps.size∧(z1l lm fs bs acc).defers=acc.defers
 | [],_,_,_=>⟨rfl,rfl⟩
 | _ :: _,[],_,_=>⟨rfl,rfl⟩
 | _ :: _,_ :: _,[],_=>⟨rfl,rfl⟩
 | o :: r,(f,_) :: s,b :: bs,acc=>by
  have:=z10 r s bs (acc.put o.dst (f b))
  exact ⟨this.1.trans (size_put _ _ _),this.2.trans (z1o _ _ _)⟩
theorem z1Z {P:Program} {ops:Array Oper} {W:World} {A:Act} {w:World} {β:Tmp→Nat} {O:Tmp→Obj} : ∀ (lm:List Oper) (fs:List ((Nat→Value) × Obj)),(∀ o ∈ lm,∃ d,o.dst=some d)→z1z P ops W A lm fs →
  (∀ o ∈ lm,∀ d,o.dst=some d→w.heap[β d]? = some (O d) ∧ ∀ (f:Nat→Value) (ob:Obj),(∀ p:Regrown,makes P o A (gw W p) f ob)→ob=O d)→z3i fs ((dstsOf lm).map β) w
 | [],[],_,_,_=>trivial
 | [],_ :: _,_,h,_=>h.elim
 | _ :: _,[],_,h,_=>h.elim
 | o :: r,(f,ob) :: s,hd,h,hh=>by
  obtain ⟨d,hdo⟩:=hd o (List.mem_cons.2 (.inl rfl))
  have hds:dstsOf (o :: r)=d :: dstsOf r:=by simp [dstsOf,hdo]
  obtain ⟨h1,h2,h3⟩:=h
  obtain ⟨k1,k2⟩:=hh o (List.mem_cons.2 (.inl rfl)) d hdo
  rw [hds]
  refine ⟨by rw [k1,k2 f ob h2],z1Z r s (fun o' ho'=>hd o' (List.mem_cons.2 (.inr ho'))) h3 (fun o' ho'=>hh o' (List.mem_cons.2 (.inr ho')))⟩
theorem z4m {w:World} {a b:Obj} (h:w.alloc a=w.alloc b):a=b:=by
 have:=congrArg (fun w' : World=>w'.heap[w.heap.size]?) h
 simp only [heap_alloc_new] at this
 exact Option.some.inj this
theorem z4C {P:Program} {o:Oper} {A:Act} {w:World} {f g:Nat→Value} {a b:Obj} (h:makes P o A w f a) (k:makes P o A w g b):a=b:=by
 unfold makes at h k
 rw [h] at k
 have:=(Result.ok.inj k).2
 exact z4m this
theorem z0R {ops:Array Oper} {n:Nat} (hn:n≤ops.size) (hdep:((List.range n).all fun i=>match ops[i]? with|none=>false|some o=>o.after.all (fun e => !Region.binds .any e||decide (e.on<i)))=true)
  (htail:n=ops.size∨(Region.sinkB .any ops n=true∧Region.chainB .any ops n=true)) {listed:Array Bool} (inv:HeadInv .any ops n listed) (h:qa listed n ≠ 0) :
  Region.ready .any ops listed ≠ [] ∧ ∀ i ∈ Region.ready .any ops listed,i<n:=by
 have hex : ∃ i,i<n∧listed.getD i true=false ∧ ∀ j,j<i→listed.getD j true=true:=by
  have hne:((List.range n).filter (fun i => !listed.getD i true)) ≠ []:=fun e=>h (by unfold qa;rw [e];rfl)
  have hsome : ∃ i,i<n∧listed.getD i true=false:=by
   obtain ⟨i,hi⟩:=List.exists_mem_of_ne_nil _ hne
   rw [List.mem_filter] at hi
   exact ⟨i,List.mem_range.1 hi.1,by simpa using hi.2⟩
  have : ∀ k,∀ i,i<k→i<n→listed.getD i true=false → ∃ i,i<n∧listed.getD i true=false ∧ ∀ j,j<i→listed.getD j true=true:=by
   intro k
   induction k with
   | zero=>intro i hi;omega
   | succ k ih =>
    intro i hik hin hf
    by_cases hc : ∃ j,j<i∧listed.getD j true=false
    ·obtain ⟨j,hj,hjf⟩:=hc
     exact ih j (by omega) (by omega) hjf
    ·refine ⟨i,hin,hf,fun j hj=>?_⟩
     cases hb:listed.getD j true with
     | true=>rfl
     | false=>exact absurd ⟨j,hj,hb⟩ hc
  obtain ⟨i,hi,hf⟩:=hsome
  exact this (i+1) i (by omega) hi hf
 obtain ⟨i0,hi0,hun,hleast⟩:=hex
 have hr:i0 ∈ Region.ready .any ops listed:=by
  have hd:=List.all_eq_true.1 hdep i0 (List.mem_range.2 hi0)
  cases ho:ops[i0]? with
  | none=>rw [ho] at hd;cases hd
  | some o =>
   rw [ho] at hd
   refine mem_ready.2 ⟨hun,o,ho,fun e he hb=>?_⟩
   have hlt:=Array.all_eq_true_iff_forall_mem.1 hd e he
   simp only [hb,Bool.not_true,Bool.false_or,decide_eq_true_eq] at hlt
   have ht:=hleast e.on hlt
   have hsz:e.on<listed.size:=by rw [inv.size];omega
   simpa [hsz] using ht
 refine ⟨fun e=>(by rw [e] at hr;cases hr),fun i hi=>?_⟩
 rcases Nat.lt_or_ge i n with hlt|hge
 ·exact hlt
 ·exfalso
  obtain ⟨_,o,ho,_⟩:=mem_ready.1 hi
  have hio:i<ops.size:=(Array.getElem?_eq_some_iff.1 ho).1
  rcases htail with e|⟨hs,hc⟩
  ·omega
  ·exact tail_waits hs hc (by omega) inv _ i0 rfl hi0 hun i hge hi
theorem z3c {ops:Array Oper} {n i j:Nat} (h:z4o ops n=true) (hi:i<n) (hj:j<n) (hne:i ≠ j) {o o' : Oper} (ho:ops[i]? = some o) (ho' : ops[j]? = some o'):o.dst ≠ o'.dst:=by
 have h1:=List.all_eq_true.1 h i (List.mem_range.2 hi)
 have h2:=List.all_eq_true.1 h1 j (List.mem_range.2 hj)
 rw [ho,ho'] at h2
 simp only [Option.bind_some,Bool.or_eq_true,beq_iff_eq,bne_iff_ne] at h2
 rcases h2 with h2|h2
 ·exact absurd h2 hne
 ·exact h2
theorem z0o : ∀ {lm:List Oper},(∀ o ∈ lm,∃ d,o.dst=some d)→(dstsOf lm).length=lm.length
 | [],_=>rfl
 | o :: r,h=>by
  obtain ⟨d,hd⟩:=h o (List.mem_cons.2 (.inl rfl))
  have:=z0o (lm:=r) (fun o' ho'=>h o' (List.mem_cons.2 (.inr ho')))
  simp only [dstsOf,List.filterMap_cons,hd,List.length_cons] at this ⊢
  omega
theorem nodup_of_eraseDups {l:List Nat} (h:(l.eraseDups.length==l.length)=true):l.Nodup:=by
 have key : ∀ (k:Nat) (l:List Nat),l.length≤k→l.eraseDups.length≤l.length∧(l.eraseDups.length=l.length→l.Nodup):=by
  intro k
  induction k with
  | zero=>intro l hl;have:l = []:=List.length_eq_zero_iff.1 (by omega);subst this;simp
  | succ k ih =>
   intro l hl
   cases l with
   | nil=>simp
   | cons x l =>
    rw [List.eraseDups_cons]
    have hf:(l.filter (fun b => !b==x)).length≤l.length:=List.length_filter_le _ _
    obtain ⟨h1,h2⟩:=ih (l.filter (fun b => !b==x)) (by simp at hl;omega)
    simp only [List.length_cons]
    refine ⟨by omega,fun e=>?_⟩
    have e1:(l.filter (fun b => !b==x)).length=l.length:=by omega
    have e2:l.filter (fun b => !b==x)=l:=List.filter_eq_self.2 (fun y hy=>by
     have:=List.length_filter_eq_length_iff.1 e1 y hy
     exact this)
    have hx:x ∉ l:=by
     intro hx
     have:=List.filter_eq_self.1 e2 x hx
     simp at this
    have hn:l.Nodup:=by
     have:=h2 (by omega)
     rwa [e2] at this
    exact List.nodup_cons.2 ⟨hx,hn⟩
 exact (key l.length l (Nat.le_refl _)).2 (by simpa using h)
theorem z2n {P:Program} {id:Nat} {Q:Exit→Act→World→Prop} {a:Act} {w:World} {l lq lm lt:List Oper} (n:Nat) (ms:List Nat) (hm:P.follows .mixedOrders=true) (hB:qmB l.toArray n ms a.tmps.size=true)
  (hq:qb l n ms=lq) (hmk:zR l ms=lm) (ht:l.drop n=lt)
  (h:wpG P l.toArray w.drew (fun A => ∃ fs,z1z P l.toArray w.drew A lm fs ∧ ∀ bs:List Nat,bs.length=lm.length→bs.Nodup→(∀ b ∈ bs,w.drew.heap.size≤b) → ∀ p:Regrown,z3i fs bs (gw w.drew p)→wpList P l.toArray Q lt (z1l lm fs bs A) (gw w.drew p)) lq a) :
  (Code.region id l.toArray true).wp P Q a w:=by
 subst hq;subst hmk;subst ht
 simp only [qmB,Bool.and_eq_true,decide_eq_true_eq,Bool.or_eq_true] at hB
 obtain ⟨⟨⟨⟨⟨⟨hhead,hsel⟩,hap⟩,hn⟩,hdep⟩,htail⟩,hseq⟩:=hB
 simp only [headB,Bool.and_eq_true] at hhead
 obtain ⟨⟨⟨⟨hokq,hmsn⟩,hmkd⟩,hmkn⟩,hlook⟩:=hhead
 have hsel':=Region.noSelect_spec hsel
 have hmsn' : ∀ m ∈ ms,m<n:=fun m h=>by have:=List.all_eq_true.1 hmsn m h;simpa using this
 have hmkd' : ∀ o ∈ zR l ms,∃ d,o.dst=some d∧d<a.tmps.size∧d ∉ dstsOf (qb l n ms):=fun o ho=>by
  have:=List.all_eq_true.1 hmkd o (by simpa using ho)
  cases hd:o.dst with
  | none=>simp [hd] at this
  | some d=>simp [hd] at this;exact ⟨d,rfl,by simpa using this⟩
 have hmkdst : ∀ o ∈ zR l ms,∃ d,o.dst=some d:=fun o ho=>let ⟨d,h1,_⟩:=hmkd' o ho;⟨d,h1⟩
 have hnodup:(dstsOf (zR l ms)).Nodup:=nodup_of_eraseDups (by simpa using hmkn)
 obtain ⟨ν,A,_,hR,hAd,hAs,hAslot,htr⟩:=z2m (all:=dstsOf (qb l n ms)) (qb l n ms) [] a (by simpa using hokq) (fun t ht=>by simpa using ht) h
 obtain ⟨fs,hmake,hfin⟩:=hR
 obtain ⟨F,O,hFO,hput⟩:=z4E _ _ hmkdst hnodup hmake
 have hmemq : ∀ i o,i<n→i ∉ ms→l.toArray[i]? = some o→o ∈ qb l n ms:=fun i o h1 h2 h3=>by
  have:=(z0C (ops:=l.toArray)).2 ⟨i,h1,h2,h3⟩
  simpa using this
 have hmemm : ∀ i o,i ∈ ms→l.toArray[i]? = some o→o ∈ zR l ms:=fun i o h1 h2=>by
  have:=(qI (ops:=l.toArray)).2 ⟨i,h1,h2⟩
  simpa using this
 let I:Array Bool→Act→World→Prop:=fun listed a' w' => ∃ (β:Tmp→Nat) (q:Regrown),w' = gw w.drew q∧a'.defers=a.defers∧a'.tmps.size=a.tmps.size∧HeadInv .any l.toArray n listed ∧
  (∀ t,t ∉ dstsOf (qb l n ms)→t ∉ dstsOf (zR l ms)→slot a' t=slot a t) ∧
  (∀ i o d,i<n→i ∉ ms→l.toArray[i]? = some o→o.dst=some d→slot a' d=if listed.getD i false=true then ν d else slot a d) ∧
  (∀ i o d,i ∈ ms→l.toArray[i]? = some o→o.dst=some d→slot a' d=if listed.getD i false=true then F d (β d) else slot a d) ∧
  (∀ i o d,i ∈ ms→l.toArray[i]? = some o→o.dst=some d→listed.getD i false=true→w.heap.size≤β d∧w'.heap[β d]? = some (O d)) ∧
  (∀ i o d j o' d',i ∈ ms→l.toArray[i]? = some o→o.dst=some d→listed.getD i false=true→j ∈ ms→l.toArray[j]? = some o' → o'.dst=some d' → listed.getD j false=true→i ≠ j → β d ≠ β d')
 -- what an operation sees
 have sees : ∀ {listed:Array Bool} {a' : Act} {w' : World} {i:Nat} {o:Oper},I listed a' w' → i<n→i ∈ Region.ready .any l.toArray listed→l.toArray[i]? = some o →
   ∀ x ∈ o.looksAt l.toArray,slot a' x=if x ∈ dstsOf (qb l n ms) then ν x else slot a x:=by
  intro listed a' w' i o ⟨β,q,_,_,_,hinv,s1,s2,s3,s4,s5⟩ hi hr ho x hx
  have hl:=List.all_eq_true.1 hlook i (List.mem_range.2 hi)
  rw [ho] at hl
  have hl':=List.all_eq_true.1 hl x hx
  simp only [Bool.and_eq_true,Bool.not_eq_true',Bool.or_eq_true] at hl'
  obtain ⟨hxm,hxq⟩:=hl'
  have hxm' : x ∉ dstsOf (zR l ms):=by simpa using hxm
  by_cases hxin:x ∈ dstsOf (qb l n ms)
  ·rw [if_pos hxin]
   rcases hxq with hxq|hxq
   ·have:x ∉ dstsOf (qb l n ms):=by simpa using hxq
    exact absurd hxin this
   ·obtain ⟨k,hk,he2⟩:=Array.any_eq_true.1 hxq
    simp only [Bool.and_eq_true,beq_iff_eq,decide_eq_true_eq,Bool.not_eq_true'] at he2
    obtain ⟨⟨⟨hb,hdx⟩,hen⟩,hems⟩:=he2
    obtain ⟨_,o2,ho2,hall⟩:=mem_ready.1 hr
    have:o2=o:=Option.some.inj (ho2.symm.trans ho)
    subst this
    have hle:=hall _ (Array.getElem_mem hk) hb
    cases hoe:(l.toArray)[o2.after[k].on]? with
    | none=>rw [hoe] at hdx;cases hdx
    | some oe =>
     rw [hoe] at hdx
     rw [s2 _ oe x hen (by simpa using hems) hoe (by simpa using hdx),if_pos hle]
  ·rw [if_neg hxin];exact s1 x hxin hxm'
 -- the frame behind an operation
 have after : ∀ {listed:Array Bool} {a' : Act} {w' w'' : World} {i:Nat} {o:Oper} {d:Tmp} {v:Value},I listed a' w' → i<n→i ∈ Region.ready .any l.toArray listed→l.toArray[i]? = some o→o.dst=some d→d<a.tmps.size →
   (i ∉ ms→v = ν d ∧ ∃ q,w'' = gw w' q)→(i ∈ ms→v=F d w'.heap.size∧w'' = w'.alloc (O d))→I (listed.setIfInBounds i true) (a'.put o.dst v) w'':=by
  intro listed a' w' w'' i o d v ⟨β,q,hw,hdef,hsz,hinv,s1,s2,s3,s4,s5⟩ hi hr ho hd hdlt hq hmm
  have hdlt' : d<a'.tmps.size:=hsz ▸ hdlt
  have hilt:i<listed.size:=by rw [hinv.size];exact (Array.getElem?_eq_some_iff.1 ho).1
  have hself:(listed.setIfInBounds i true).getD i false=true:=by simp [hilt]
  have hoth : ∀ j,i ≠ j→(listed.setIfInBounds i true).getD j false=listed.getD j false:=fun j hj=>getD_set_ne false hj
  have hdd : ∀ j o' d',j<n→i ≠ j→l.toArray[j]? = some o' → o'.dst=some d' → d' ≠ d:=fun j o' d' hj hij ho' hd' e=>by
   subst e;exact z3c hap hi hj hij ho ho' (hd.trans hd'.symm)
  have hgrow : ∃ q',w'' = gw w.drew q':=by
   by_cases him:i ∈ ms
   ·obtain ⟨_,e⟩:=hmm him
    rw [e,hw]
    exact z2K ((z3h w.drew q).alloc (by simp) _)
   ·obtain ⟨_,q',e⟩:=hq him
    rw [e,hw]
    exact gw_two _ q q'
  have hkeep : ∀ (b:Nat) (ob:Obj),w'.heap[b]? = some ob→w''.heap[b]? = some ob:=by
   intro b ob hb
   have hlt:b<w'.heap.size:=by
    rcases Nat.lt_or_ge b w'.heap.size with h|h
    ·exact h
    ·rw [Array.getElem?_eq_none h] at hb;cases hb
   by_cases him:i ∈ ms
   ·obtain ⟨_,e⟩:=hmm him
    rw [e,heap_alloc_old _ _ hlt];exact hb
   ·obtain ⟨_,q',e⟩:=hq him
    rw [e,z7f _ _ _ hlt];exact hb
  obtain ⟨q',hq'⟩:=hgrow
  rw [hd]
  refine ⟨if i ∈ ms then (fun t=>if t=d then w'.heap.size else β t) else β,q',hq',hdef,(size_put _ _ _).trans hsz,hinv.set hr hi,?_,?_,?_,?_,?_⟩
  ·intro t ht1 ht2
   rw [qi a' d t v hdlt',if_neg]
   ·exact s1 t ht1 ht2
   ·intro e
    subst e
    by_cases him:i ∈ ms
    ·exact ht2 (qo.2 ⟨o,hmemm i o him ho,hd⟩)
    ·exact ht1 (qo.2 ⟨o,hmemq i o hi him ho,hd⟩)
  ·intro j o' d' hj hjm ho' hd'
   by_cases hij:i=j
   ·subst hij
    have e1:o' = o:=Option.some.inj (ho'.symm.trans ho)
    subst e1
    have e2:d' = d:=Option.some.inj (hd'.symm.trans hd)
    subst e2
    rw [hself,if_pos rfl,qi a' d' d' v hdlt',if_pos rfl]
    exact (hq hjm).1
   ·rw [hoth j hij,qi a' d d' v hdlt',if_neg (hdd j o' d' hj hij ho' hd')]
    exact s2 j o' d' hj hjm ho' hd'
  ·intro j o' d' hjm ho' hd'
   by_cases hij:i=j
   ·subst hij
    have e1:o' = o:=Option.some.inj (ho'.symm.trans ho)
    subst e1
    have e2:d' = d:=Option.some.inj (hd'.symm.trans hd)
    subst e2
    rw [hself,if_pos rfl,qi a' d' d' v hdlt',if_pos rfl,if_pos hjm]
    simp only [if_true]
    exact (hmm hjm).1
   ·have hne:=hdd j o' d' (hmsn' j hjm) hij ho' hd'
    rw [hoth j hij,qi a' d d' v hdlt',if_neg hne,s3 j o' d' hjm ho' hd']
    split
    ·split
     ·simp only [if_neg hne]
     ·rfl
    ·rfl
  ·intro j o' d' hjm ho' hd' hl
   by_cases hij:i=j
   ·subst hij
    have e1:o' = o:=Option.some.inj (ho'.symm.trans ho)
    subst e1
    have e2:d' = d:=Option.some.inj (hd'.symm.trans hd)
    subst e2
    rw [if_pos hjm]
    simp only [if_true]
    refine ⟨by rw [hw];simp,?_⟩
    rw [(hmm hjm).2];exact heap_alloc_new w' _
   ·have hne:=hdd j o' d' (hmsn' j hjm) hij ho' hd'
    rw [hoth j hij] at hl
    obtain ⟨k1,k2⟩:=s4 j o' d' hjm ho' hd' hl
    have e:(if i ∈ ms then (fun t=>if t=d then w'.heap.size else β t) else β) d' = β d':=by
     split
     ·simp only [if_neg hne]
     ·rfl
    rw [e]
    exact ⟨k1,hkeep _ _ k2⟩
  ·intro j o1 d1 k o2 d2 hjm ho1 hd1 hl1 hkm ho2 hd2 hl2 hjk
   have lt : ∀ m o3 d3,m ∈ ms→l.toArray[m]? = some o3→o3.dst=some d3→listed.getD m false=true → β d3<w'.heap.size:=by
    intro m o3 d3 hm3 ho3 hd3 hl3
    have:=(s4 m o3 d3 hm3 ho3 hd3 hl3).2
    rcases Nat.lt_or_ge (β d3) w'.heap.size with h|h
    ·exact h
    ·rw [Array.getElem?_eq_none h] at this;cases this
   by_cases hij:i=j
   ·subst hij
    have e1:o1=o:=Option.some.inj (ho1.symm.trans ho)
    subst e1
    have e2:d1=d:=Option.some.inj (hd1.symm.trans hd)
    subst e2
    rw [hoth k hjk] at hl2
    have hne:=hdd k o2 d2 (hmsn' k hkm) hjk ho2 hd2
    rw [if_pos hjm]
    simp only [if_true,if_neg hne]
    have:=lt k o2 d2 hkm ho2 hd2 hl2
    omega
   ·rw [hoth j hij] at hl1
    have hne1:=hdd j o1 d1 (hmsn' j hjm) hij ho1 hd1
    by_cases hik:i=k
    ·subst hik
     have e1:o2=o:=Option.some.inj (ho2.symm.trans ho)
     subst e1
     have e2:d2=d:=Option.some.inj (hd2.symm.trans hd)
     subst e2
     rw [if_pos hkm]
     simp only [if_true,if_neg hne1]
     have:=lt j o1 d1 hjm ho1 hd1 hl1
     omega
    ·rw [hoth k hik] at hl2
     have hne2:=hdd k o2 d2 (hmsn' k hkm) hik ho2 hd2
     split
     ·simp only [if_neg hne1,if_neg hne2]
      exact s5 j o1 d1 k o2 d2 hjm ho1 hd1 hl1 hkm ho2 hd2 hl2 hjk
     ·exact s5 j o1 d1 k o2 d2 hjm ho1 hd1 hl1 hkm ho2 hd2 hl2 hjk
 have hstart:I (Array.replicate l.toArray.size false) a w.drew:=by
  refine ⟨fun _ => 0,_,z1X _,rfl,rfl,⟨by simp,fun j oj _ hl=>(by rw [getD_replicate_false] at hl;cases hl),fun t _ ht=>getD_in (by simpa using ht) (getD_replicate_false _ _)⟩,fun _ _ _=>rfl,?_,?_,?_,?_⟩
  ·intro i o d _ _ _ _;rw [getD_replicate_false];simp
  ·intro i o d _ _ _;rw [getD_replicate_false];simp
  ·intro i o d _ _ _ hl;rw [getD_replicate_false] at hl;cases hl
  ·intro i o d j o' d' _ _ _ hl;rw [getD_replicate_false] at hl;cases hl
 refine wp_region_any hm ?_
 have hw0:({ w with drawn:=w.drawn+1 } : World)=w.drew:=rfl
 rw [hw0]
 refine z0l (n:=n) (g:=l.toArray.size-n) I (fun _ _ _ ⟨_,_,_,_,_,hinv,_⟩=>hinv) (fun listed inv h0=>z0R hn hdep htail inv h0) ?_ ?_ _ _ _ _ ?_ hstart
 ·-- a step
  intro listed a' w' i hI hi hr
  obtain ⟨_,o,ho,_⟩:=mem_ready.1 hr
  have hs:=sees hI hi hr ho
  have hI':=hI
  obtain ⟨β,q,hw,hdef,hsz,hinv,s1,s2,s3,s4,s5⟩:=hI'
  unfold wpOp
  rw [ho]
  by_cases him:i ∈ ms
  ·obtain ⟨d,hd,hdlt,hdq⟩:=hmkd' o (hmemm i o him ho)
   obtain ⟨hwant,hmakes⟩:=hFO o (hmemm i o him ho) d hd
   have hag : ∀ x ∈ o.looksAt l.toArray,slot a' x=slot A x:=fun x hx=>by rw [hs x hx,hAslot x]
   have hwant' : Region.wanted o (yielded l.toArray a'.tmps)=true:=by rw [z06 (hsz.trans hAs.symm) hag];exact hwant
   have hrun:(execOp a'.eval o).run P w' = .ok (.value (F d w'.heap.size)) (w'.alloc (O d)):=by
    rw [execOp_congr o (fun cs b=>hsel' i o cs b ho) (z0p hag),hw]
    exact hmakes q
   simp only [hwant',if_true]
   refine .inl ?_
   unfold Oper.wp
   rw [hrun]
   exact after hI hi hr ho hd hdlt (fun h=>absurd him h) (fun _=>⟨rfl,rfl⟩)
  ·have hmem:=hmemq i o hi him ho
   obtain ⟨d,hd,B,hBs,hop,hBl⟩:=htr o hmem
   have hdlt:d<a.tmps.size:=by
    have hk : ∀ (lq:List Oper) (bef:List Tmp),okQ l.toArray (dstsOf (qb l n ms)) a.tmps.size lq bef=true→o ∈ lq→d<a.tmps.size:=by
     intro lq
     induction lq with
     | nil=>intro _ _ h;cases h
     | cons o' r ih =>
      intro bef hb hmem'
      cases hd' : o'.dst with
      | none=>simp [okQ,hd'] at hb
      | some d' =>
       simp only [okQ,hd',Bool.and_eq_true,decide_eq_true_eq] at hb
       rcases List.mem_cons.1 hmem' with e|e
       ·subst e
        have:d' = d:=Option.some.inj (hd'.symm.trans hd)
        subst this;exact hb.1.1.1.1
       ·exact ih _ hb.2 e
    exact hk _ [] (by simpa using hokq) hmem
   have hag : ∀ x ∈ o.looksAt l.toArray,slot a' x=slot B x:=fun x hx=>by rw [hs x hx,hBl x hx];simp
   have hww:=z06 (o:=o) (hsz.trans hBs.symm) hag
   have hex:=execOp_congr o (fun cs b=>hsel' i o cs b ho) (z0p hag)
   unfold opAt at hop
   by_cases hwant:Region.wanted o (yielded l.toArray B.tmps)=true
   ·rw [if_pos hwant] at hop
    have hat:=hop q
    unfold gqAt at hat
    simp only [hww.trans hwant,if_true]
    refine .inl ?_
    unfold Oper.wp
    rw [hex,hw]
    generalize (execOp B.eval o).run P (gw w.drew q)=res at hat
    cases res with
    | halt x w1=>exact hat.elim
    | ok nx w1 =>
     cases nx <;> simp only [z4w] at hat <;> simp only [Oper.upon]
     case value u =>
      obtain ⟨rfl,rfl⟩:=hat
      exact after hI hi hr ho hd hdlt (fun _=>⟨rfl,by rw [hw];exact ⟨_,z1X _⟩⟩) (fun h=>absurd h him)
     case skip =>
      obtain ⟨rfl,e⟩:=hat
      exact after hI hi hr ho hd hdlt (fun _=>⟨e.symm,by rw [hw];exact ⟨_,z1X _⟩⟩) (fun h=>absurd h him)
     case enter f args =>
      obtain ⟨rfl,hc⟩:=hat
      refine hc.mono fun e w2 he=>?_
      obtain ⟨rfl,q2,rfl⟩:=he
      exact after hI hi hr ho hd hdlt (fun _=>⟨rfl,q2,by rw [hw]⟩) (fun h=>absurd h him)
   ·rw [if_neg hwant] at hop
    have hwant' : Region.wanted o (yielded l.toArray a'.tmps)=false:=by rw [hww];simpa using hwant
    simp only [hwant',Bool.false_eq_true,if_false]
    exact after hI hi hr ho hd hdlt (fun _=>⟨hop.symm,⟨_,z1X _⟩⟩) (fun h=>absurd h him)
 ·-- the tail
  intro listed a' w' ⟨β,q,hw,hdef,hsz,hinv,s1,s2,s3,s4,s5⟩ h0 f hf
  have hl:=z0v hinv h0
  have hgd : ∀ i,i<n→listed.getD i false=true:=by
   intro i hi
   rw [hl]
   have:i<l.length:=by have:=hn;simp at this;omega
   simp [qV,this,hi]
  have hact:a' = z1l (zR l ms) fs ((dstsOf (zR l ms)).map β) A:=by
   have hsh:=z10 (zR l ms) fs ((dstsOf (zR l ms)).map β) A
   refine z5o (hsz.trans (hAs.symm.trans hsh.1.symm)) (hdef.trans (hAd.symm.trans hsh.2.symm)) fun t=>?_
   rw [hput β A (fun d hd=>by
    obtain ⟨o,ho,hod⟩:=qo.1 hd
    obtain ⟨d',hd',hlt,_⟩:=hmkd' o ho
    have:d' = d:=Option.some.inj (hd'.symm.trans hod)
    subst this
    exact hAs.symm ▸ hlt) t]
   by_cases htm:t ∈ dstsOf (zR l ms)
   ·rw [if_pos htm]
    obtain ⟨o,ho,hod⟩:=qo.1 htm
    obtain ⟨i,him,hio⟩:=(qI (ops:=l.toArray)).1 (by simpa using ho)
    rw [s3 i o t him hio hod,if_pos (hgd i (hmsn' i him))]
   ·rw [if_neg htm,hAslot t]
    by_cases htq:t ∈ dstsOf (qb l n ms)
    ·rw [if_pos htq]
     obtain ⟨o,ho,hod⟩:=qo.1 htq
     obtain ⟨i,hi,him,hio⟩:=(z0C (ops:=l.toArray)).1 (by simpa using ho)
     rw [s2 i o t hi him hio hod,if_pos (hgd i hi)]
    ·rw [if_neg htq];exact s1 t htq htm
  have hheap:z3i fs ((dstsOf (zR l ms)).map β) w':=by
   refine z1Z (w:=w') (β := β) (O:=O) _ _ hmkdst hmake fun o ho d hd=>?_
   obtain ⟨i,him,hio⟩:=(qI (ops:=l.toArray)).1 (by simpa using ho)
   refine ⟨(s4 i o d him hio hd (hgd i (hmsn' i him))).2,fun g ob hg=>?_⟩
   exact z4C (hg ⟨0,#[]⟩) ((hFO o ho d hd).2 ⟨0,#[]⟩)
  have hbn:((dstsOf (zR l ms)).map β).Nodup:=by
   have key : ∀ d ∈ dstsOf (zR l ms),∀ d' ∈ dstsOf (zR l ms),d ≠ d' → β d ≠ β d':=by
    intro d hd d' hd' hne
    obtain ⟨o,ho,hod⟩:=qo.1 hd
    obtain ⟨o',ho',hod'⟩:=qo.1 hd'
    obtain ⟨i,him,hio⟩:=(qI (ops:=l.toArray)).1 (by simpa using ho)
    obtain ⟨j,hjm,hjo⟩:=(qI (ops:=l.toArray)).1 (by simpa using ho')
    refine s5 i o d j o' d' him hio hod (hgd i (hmsn' i him)) hjm hjo hod' (hgd j (hmsn' j hjm)) ?_
    intro e
    subst e
    have e1:o=o':=Option.some.inj (hio.symm.trans hjo)
    subst e1
    exact hne (Option.some.inj (hod.symm.trans hod'))
   have map_nodup : ∀ L:List Tmp,L.Nodup→(∀ d ∈ L,∀ d' ∈ L,d ≠ d' → β d ≠ β d')→(L.map β).Nodup:=by
    intro L
    induction L with
    | nil=>intro _ _;simp
    | cons x L ih =>
     intro hL hk
     obtain ⟨hx,hL'⟩:=List.nodup_cons.1 hL
     rw [List.map_cons,List.nodup_cons]
     refine ⟨fun hm=>?_,ih hL' (fun d hd d' hd'=>hk d (List.mem_cons.2 (.inr hd)) d' (List.mem_cons.2 (.inr hd')))⟩
     obtain ⟨y,hy,e⟩:=List.mem_map.1 hm
     exact hk y (List.mem_cons.2 (.inr hy)) x (List.mem_cons.2 (.inl rfl)) (fun e'=>hx (e' ▸ hy)) e
   exact map_nodup _ hnodup key
  have hwl:=hfin ((dstsOf (zR l ms)).map β) (by rw [List.length_map,z0o hmkdst]) hbn (fun b hb=>by
   obtain ⟨d,hd,rfl⟩:=List.mem_map.1 hb
   obtain ⟨o,ho,hod⟩:=qo.1 hd
   obtain ⟨i,him,hio⟩:=(qI (ops:=l.toArray)).1 (by simpa using ho)
   exact (s4 i o d him hio hod (hgd i (hmsn' i him))).1) q (by rw [← hw];exact hheap)
  rw [← hact,← hw] at hwl
  have hdl:(l.drop n).length=l.toArray.size-n:=by simp
  have:=wpAny_of_seq (md := .any) (Q':=Q) (l.drop n) n listed a' w' (fun j=>by simp [List.getElem?_drop]) (by rw [hdl,hl];exact hseq) hwl
  rw [hdl] at this
  have h2:=z0m _ (f-(l.toArray.size-n)) _ _ _ this
  rwa [show l.toArray.size-n+(f-(l.toArray.size-n))=f by omega] at h2
 ·-- the fuel
  have:qa (Array.replicate l.toArray.size false) n≤n:=by
   unfold qa
   exact Nat.le_trans (List.length_filter_le _ _) (by simp)
  omega
theorem z05 {W:World} {b:Nat} {cs:Array Value} {t:TypeId} {fr:Nat × Nat} (h:W.heap[b]? = some (.cells cs t fr)) : ∀ o,W.cell? ⟨b,o,none⟩=cs[o]?:=fun o=>cell_of_row W b o cs t fr h
def splice (old:Array Value) (off:Nat) (cs:Array Value):Array Value:=(old.toList.take off++cs.toList++old.toList.drop (off+cs.toList.length)).toArray
theorem qX {w w' : World} {base:Nat} {e:TypeId} {size:Nat} {v:Value} {n:Nat} {xs:List Value} (h:w.ownsRow base e size v n xs) (hk : ∀ g,v.ownBlock=some g→w'.heap[g]? = w.heap[g]?):w'.ownsRow base e size v n xs:=by
 refine ⟨h.1,?_⟩
 rcases h.2 with hn|⟨g,cap,cur,rfl,hb,hgg,rest⟩
 ·exact .inl hn
 ·exact .inr ⟨g,cap,cur,rfl,hb,(hk g rfl).trans hgg,rest⟩
theorem z2u {w:World} {base:Nat} {e:TypeId} {size:Nat} {g n cap:Nat} {off:Nat} {xs:List Value} (h:w.ownsRow base e size (.slice (some ⟨g,off,none⟩) n cap) n xs) {j:Nat} {u:Value} (hu:xs[j]? = some u):w.cell? ⟨g,j,none⟩=some u:=by
 rcases h.2 with ⟨he,_⟩|⟨g',cap',cur,he,_,hgg,_,_,_,htake⟩
 ·cases he
 ·cases he
  rw [cell_of_row w g j cur e (0,0) hgg]
  rw [← htake,List.getElem?_take] at hu
  split at hu
  ·simpa using hu
  ·cases hu
inductive StopBox (p:Prop):Type
 | mk
def Stop (p:Prop) (_:StopBox p):Prop:=p
theorem Stop.on {p:Prop} {b:StopBox p} (h:p):Stop p b:=h
def z4G (P:Program) (w:World) (F:World→Value→Prop):Result Next→Prop
 | .ok (.value u) w'=>F w' u ∧ ∃ q,w' = gw w q
 | .ok .skip w'=>w' = w∧F w undef
 | .ok (.enter f args) w'=>w' = w∧Calls P f args w fun e w'' => ∃ u,e = .returned u∧F w'' u ∧ ∃ q,w'' = gw w q
 | _=>False
def z6I (P:Program) (ops:Array Oper) (W:World) (size:Nat) (F:Tmp→World→Value→Prop) (o:Oper):Prop :=
 ∀ d,o.dst=some d → ∀ (b:Act) (p:Regrown),b.tmps.size=size→(∀ x ∈ o.looksAt ops,F x (gw W p) (slot b x)) →
  if Region.wanted o (yielded ops b.tmps)=true then z4G P (gw W p) (F d) ((execOp b.eval o).run P (gw W p)) else F d (gw W p) undef
def relB (ops:Array Oper) (n:Nat) (size:Nat):Bool :=
 (List.range n).all (fun i=>match ops[i]? with
  | none=>false
  | some o=>(match o.dst with|none=>false|some d=>decide (d<size))&&(o.looksAt ops).all (fun x => !(List.range n).any (fun j=>((ops[j]?).bind (·.dst))==some x)||o.after.any (fun e=>Region.binds .any e&&((ops[e.on]?).bind (·.dst))==some x&&decide (e.on<n)))) &&
 Region.noSelect ops&&z4o ops n&&decide (n≤ops.size) &&
 (List.range n).all (fun i=>match ops[i]? with|none=>false|some o=>o.after.all (fun e => !Region.binds .any e||decide (e.on<i))) &&
 (decide (n=ops.size)||(Region.sinkB .any ops n&&Region.chainB .any ops n))&&Region.seqB .any ops (ops.size-n) n (qV ops.size n)
theorem z6S {P:Program} {Q:Exit→Act→World→Prop} {a:Act} {w:World} {l lt:List Oper} (n:Nat) (F:Tmp→World→Value→Prop) (hB:relB l.toArray n a.tmps.size=true) (ht:l.drop n=lt)
  (mono : ∀ t v w q,F t w v→F t (gw w q) v)
  (start : ∀ t,(∀ i,i<n→((l[i]?).bind (·.dst)) ≠ some t) → ∀ p,F t (gw w.drew p) (slot a t))
  (each : ∀ o ∈ l.take n,z6I P l.toArray w.drew a.tmps.size F o)
  (tail : ∀ (b:Act) (p:Regrown),b.defers=a.defers→b.tmps.size=a.tmps.size→(∀ t,(∀ i,i<n→((l[i]?).bind (·.dst)) ≠ some t)→slot b t=slot a t)→(∀ t,F t (gw w.drew p) (slot b t))→wpList P l.toArray Q lt b (gw w.drew p)) :
  wpAny P .any l.toArray Q l.toArray.size (Array.replicate l.toArray.size false) a w.drew:=by
 subst ht
 simp only [relB,Bool.and_eq_true,decide_eq_true_eq,Bool.or_eq_true] at hB
 obtain ⟨⟨⟨⟨⟨⟨hlook,hsel⟩,hap⟩,hn⟩,hdep⟩,htail⟩,hseq⟩:=hB
 have hsel':=Region.noSelect_spec hsel
 have hdst : ∀ i o,i<n→l.toArray[i]? = some o → ∃ d,o.dst=some d∧d<a.tmps.size:=fun i o hi ho=>by
  have:=List.all_eq_true.1 hlook i (List.mem_range.2 hi)
  rw [ho] at this
  simp only [Bool.and_eq_true] at this
  cases hd:o.dst with
  | none=>simp [hd] at this
  | some d=>simp [hd] at this;exact ⟨d,rfl,this.1⟩
 let I:Array Bool→Act→World→Prop:=fun listed a' w' => ∃ q:Regrown,w' = gw w.drew q∧a'.defers=a.defers∧a'.tmps.size=a.tmps.size∧HeadInv .any l.toArray n listed ∧
  (∀ t,(∀ i,i<n→((l[i]?).bind (·.dst)) ≠ some t)→slot a' t=slot a t) ∧
  (∀ i o d,i<n→l.toArray[i]? = some o→o.dst=some d→listed.getD i false=true→F d w' (slot a' d))
 have sees : ∀ {listed:Array Bool} {a' : Act} {w' : World} {i:Nat} {o:Oper},I listed a' w' → i<n→i ∈ Region.ready .any l.toArray listed→l.toArray[i]? = some o → ∀ x ∈ o.looksAt l.toArray,F x w' (slot a' x):=by
  intro listed a' w' i o ⟨q,hw,_,_,hinv,s1,s2⟩ hi hr ho x hx
  have hl:=List.all_eq_true.1 hlook i (List.mem_range.2 hi)
  rw [ho] at hl
  simp only [Bool.and_eq_true] at hl
  have hl':=List.all_eq_true.1 hl.2 x hx
  simp only [Bool.or_eq_true,Bool.not_eq_true'] at hl'
  rcases hl' with hno|hxq
  ·have hno' : ∀ i,i<n→((l[i]?).bind (·.dst)) ≠ some x:=fun j hj e=>by
    have:=List.any_eq_false.1 hno j (List.mem_range.2 hj)
    simp [e] at this
   rw [s1 x hno',hw]
   exact start x hno' q
  ·obtain ⟨k,hk,he2⟩:=Array.any_eq_true.1 hxq
   simp only [Bool.and_eq_true,beq_iff_eq,decide_eq_true_eq] at he2
   obtain ⟨⟨hb,hdx⟩,hen⟩:=he2
   obtain ⟨_,o2,ho2,hall⟩:=mem_ready.1 hr
   have:o2=o:=Option.some.inj (ho2.symm.trans ho)
   subst this
   have hle:=hall _ (Array.getElem_mem hk) hb
   cases hoe:(l.toArray)[o2.after[k].on]? with
   | none=>rw [hoe] at hdx;cases hdx
   | some oe =>
    rw [hoe] at hdx
    exact s2 _ oe x hen hoe (by simpa using hdx) hle
 have after : ∀ {listed:Array Bool} {a' : Act} {w' w'' : World} {i:Nat} {o:Oper} {d:Tmp} {v:Value},I listed a' w' → i<n→i ∈ Region.ready .any l.toArray listed→l.toArray[i]? = some o→o.dst=some d→d<a.tmps.size →
   (∃ q,w'' = gw w' q)→F d w'' v→I (listed.setIfInBounds i true) (a'.put o.dst v) w'':=by
  intro listed a' w' w'' i o d v ⟨q,hw,hdef,hsz,hinv,s1,s2⟩ hi hr ho hd hdlt ⟨q',hq'⟩ hF
  have hdlt' : d<a'.tmps.size:=hsz ▸ hdlt
  obtain ⟨q2,hq2⟩:=gw_two w.drew q q'
  rw [hd]
  refine ⟨q2,by rw [hq',hw,hq2],hdef,(size_put _ _ _).trans hsz,hinv.set hr hi,?_,?_⟩
  ·intro t ht
   rw [qi a' d t v hdlt',if_neg]
   ·exact s1 t ht
   ·intro e
    subst e
    exact ht i hi (by rw [← hd];simpa using congrArg (Option.bind · (·.dst)) ho)
  ·intro j o' d' hj ho' hd' hl
   by_cases hij:i=j
   ·subst hij
    have e1:o' = o:=Option.some.inj (ho'.symm.trans ho)
    subst e1
    have e2:d' = d:=Option.some.inj (hd'.symm.trans hd)
    subst e2
    rw [qi a' d' d' v hdlt',if_pos rfl]
    exact hF
   ·have hne:d' ≠ d:=fun e=>by subst e;exact z3c hap hi hj hij ho ho' (hd.trans hd'.symm)
    rw [getD_set_ne false hij] at hl
    rw [qi a' d d' v hdlt',if_neg hne,hq']
    exact mono _ _ _ _ (s2 j o' d' hj ho' hd' hl)
 have hstart:I (Array.replicate l.toArray.size false) a w.drew:=by
  refine ⟨_,z1X _,rfl,rfl,⟨by simp,fun j oj _ hl=>(by rw [getD_replicate_false] at hl;cases hl),fun t _ ht=>getD_in (by simpa using ht) (getD_replicate_false _ _)⟩,fun _ _=>rfl,?_⟩
  intro i o d _ _ _ hl;rw [getD_replicate_false] at hl;cases hl
 refine z0l (n:=n) (g:=l.toArray.size-n) I (fun _ _ _ ⟨_,_,_,_,hinv,_⟩=>hinv) (fun listed inv h0=>z0R hn hdep htail inv h0) ?_ ?_ _ _ _ _ ?_ hstart
 ·-- a step
  intro listed a' w' i hI hi hr
  obtain ⟨_,o,ho,_⟩:=mem_ready.1 hr
  have hs:=sees hI hi hr ho
  have hI':=hI
  obtain ⟨q,hw,hdef,hsz,hinv,s1,s2⟩:=hI'
  obtain ⟨d,hd,hdlt⟩:=hdst i o hi ho
  have hmem:o ∈ l.take n:=List.mem_iff_getElem?.2 ⟨i,by rw [List.getElem?_take,if_pos hi];simpa using ho⟩
  have hat:=each o hmem d hd a' q hsz (by rw [← hw];exact hs)
  unfold wpOp
  rw [ho]
  by_cases hwant:Region.wanted o (yielded l.toArray a'.tmps)=true
  ·rw [if_pos hwant] at hat
   simp only [hwant,if_true]
   refine .inl ?_
   unfold Oper.wp
   rw [hw]
   generalize (execOp a'.eval o).run P (gw w.drew q)=res at hat
   cases res with
   | halt x w1=>exact hat.elim
   | ok nx w1 =>
    cases nx <;> simp only [z4G] at hat <;> simp only [Oper.upon]
    case value u =>
     obtain ⟨hF,q1,rfl⟩:=hat
     exact after hI hi hr ho hd hdlt ⟨q1,by rw [hw]⟩ hF
    case skip =>
     obtain ⟨rfl,hF⟩:=hat
     exact after hI hi hr ho hd hdlt ⟨_,by rw [hw];exact z1X _⟩ hF
    case enter f args =>
     obtain ⟨rfl,hc⟩:=hat
     refine hc.mono fun e w2 he=>?_
     obtain ⟨u,rfl,hF,q2,rfl⟩:=he
     exact after hI hi hr ho hd hdlt ⟨q2,by rw [hw]⟩ hF
  ·rw [if_neg hwant] at hat
   have hwant' : Region.wanted o (yielded l.toArray a'.tmps)=false:=by simpa using hwant
   simp only [hwant',Bool.false_eq_true,if_false]
   exact after hI hi hr ho hd hdlt ⟨_,z1X _⟩ (by rw [hw];exact hat)
 ·-- the tail
  intro listed a' w' ⟨q,hw,hdef,hsz,hinv,s1,s2⟩ h0 f hf
  have hl:=z0v hinv h0
  have hgd : ∀ i,i<n→listed.getD i false=true:=by
   intro i hi
   rw [hl]
   have:i<l.length:=by have:=hn;simp at this;omega
   simp [qV,this,hi]
  have hwl:=tail a' q hdef hsz s1 (fun t=>by
   by_cases ht : ∀ i,i<n→((l[i]?).bind (·.dst)) ≠ some t
   ·rw [s1 t ht];exact start t ht q
   ·have : ∃ i,i<n∧((l[i]?).bind (·.dst))=some t:=by
     refine Classical.byContradiction fun h=>ht fun i hi e=>h ⟨i,hi,e⟩
    obtain ⟨i,hi,e⟩:=this
    cases ho:l[i]? with
    | none=>rw [ho] at e;cases e
    | some o =>
     rw [ho] at e
     rw [← hw]
     exact s2 i o t hi (by simpa using ho) (by simpa using e) (hgd i hi))
  rw [← hw] at hwl
  have hdl:(l.drop n).length=l.toArray.size-n:=by simp
  have:=wpAny_of_seq (md := .any) (Q':=Q) (l.drop n) n listed a' w' (fun j=>by simp [List.getElem?_drop]) (by rw [hdl,hl];exact hseq) hwl
  rw [hdl] at this
  have h2:=z0m _ (f-(l.toArray.size-n)) _ _ _ this
  rwa [show l.toArray.size-n+(f-(l.toArray.size-n))=f by omega] at h2
 ·-- the fuel
  have:qa (Array.replicate l.toArray.size false) n≤n:=by
   unfold qa
   exact Nat.le_trans (List.length_filter_le _ _) (by simp)
  omega
def FofL:List Tmp→List (World→Value→Prop)→Act→Tmp→World→Value→Prop
 | d :: ds,G :: Gs,a,t,w,v=>if t=d then G w v else FofL ds Gs a t w v
 | _,_,a,t,_,v=>v=slot a t
theorem z1Q {a:Act} : ∀ (ds:List Tmp) (Gs:List (World→Value→Prop)),(∀ G ∈ Gs,∀ v w q,G w v→G (gw w q) v) → ∀ t v w q,FofL ds Gs a t w v→FofL ds Gs a t (gw w q) v
 | [],_,_,_,_,_,_,h=>h
 | _ :: _,[],_,_,_,_,_,h=>h
 | d :: ds,G :: Gs,hm,t,v,w,q,h=>by
  simp only [FofL] at h ⊢
  by_cases e:t=d
  ·rw [if_pos e] at h ⊢
   exact hm G (List.mem_cons.2 (.inl rfl)) _ _ _ h
  ·rw [if_neg e] at h ⊢
   exact z1Q ds Gs (fun G' h'=>hm G' (List.mem_cons.2 (.inr h'))) t v w q h
theorem z2Y {a:Act} : ∀ (ds:List Tmp) (Gs:List (World→Value→Prop)) (t:Tmp) (w:World),t ∉ ds→FofL ds Gs a t w (slot a t)
 | [],_,_,_,_=>rfl
 | _ :: _,[],_,_,_=>rfl
 | d :: ds,G :: Gs,t,w,h=>by
  simp only [FofL]
  rw [if_neg (fun e=>h (by rw [e];exact List.mem_cons.2 (.inl rfl)))]
  exact z2Y ds Gs t w (fun h'=>h (List.mem_cons.2 (.inr h')))
def z3O (P:Program) (ops:Array Oper) (W:World) (size:Nat) (F:Tmp→World→Value→Prop):List Oper→Prop
 | []=>True
 | o :: r=>z6I P ops W size F o∧z3O P ops W size F r
theorem z1t {P:Program} {ops:Array Oper} {W:World} {size:Nat} {F:Tmp→World→Value→Prop} : ∀ {l:List Oper},z3O P ops W size F l → ∀ o ∈ l,z6I P ops W size F o
 | [],_,_,ho=>by cases ho
 | x :: r,⟨h1,h2⟩,o,ho=>(List.mem_cons.1 ho).elim (fun e=>e ▸ h1) (fun h'=>z1t h2 o h')
def z1T:List (World→Value→Prop)→Prop
 | []=>True
 | G :: r=>(∀ v w q,G w v→G (gw w q) v)∧z1T r
theorem z0U : ∀ {l:List (World→Value→Prop)},z1T l → ∀ G ∈ l,∀ v w q,G w v→G (gw w q) v
 | [],_,_,ho=>by cases ho
 | x :: r,⟨h1,h2⟩,o,ho=>(List.mem_cons.1 ho).elim (fun e=>e ▸ h1) (fun h'=>z0U h2 o h')
theorem z7C {P:Program} {Q:Exit→Act→World→Prop} {a:Act} {w:World} {l lt lh:List Oper} (n:Nat) (ds:List Tmp) (Gs:List (World→Value→Prop)) (hB:relB l.toArray n a.tmps.size=true) (hd:dstsOf (l.take n)=ds)
  (hh:l.take n=lh) (ht:l.drop n=lt) (mono:z1T Gs) (each:z3O P l.toArray w.drew a.tmps.size (FofL ds Gs a) lh)
  (tail : ∀ (b:Act) (p:Regrown),b.defers=a.defers→b.tmps.size=a.tmps.size→(∀ t,t ∉ ds→slot b t=slot a t)→(∀ t,FofL ds Gs a t (gw w.drew p) (slot b t))→wpList P l.toArray Q lt b (gw w.drew p)) :
  wpAny P .any l.toArray Q l.toArray.size (Array.replicate l.toArray.size false) a w.drew:=by
 subst hh
 have hmem : ∀ t,t ∈ ds ↔ ∃ i,i<n∧((l[i]?).bind (·.dst))=some t:=by
  intro t
  rw [← hd,qo]
  constructor
  ·rintro ⟨o,ho,e⟩
   obtain ⟨i,hi⟩:=List.mem_iff_getElem?.1 ho
   rw [List.getElem?_take] at hi
   split at hi
   ·rename_i hlt
    exact ⟨i,hlt,by rw [hi];simpa using e⟩
   ·cases hi
  ·rintro ⟨i,hi,e⟩
   cases ho:l[i]? with
   | none=>rw [ho] at e;cases e
   | some o =>
    rw [ho] at e
    exact ⟨o,List.mem_iff_getElem?.2 ⟨i,by rw [List.getElem?_take,if_pos hi];exact ho⟩,by simpa using e⟩
 refine z6S n (FofL ds Gs a) hB ht (z1Q ds Gs (z0U mono)) (fun t h p=>z2Y ds Gs t _ (fun h'=>?_)) (z1t each) (fun b p h1 h2 h3 h4=>tail b p h1 h2 (fun t h=>h3 t (fun i hi e=>h ((hmem t).2 ⟨i,hi,e⟩))) h4)
 obtain ⟨i,hi,e⟩:=(hmem t).1 h'
 exact h i hi e
structure Blw (B:Nat) (w w' : World):Prop extends Below B w w'
theorem Blw.refl (B:Nat) (w:World):Blw B w w:=⟨Below.refl _ _⟩
theorem Blw.trans {B:Nat} {a b c:World} (h:Blw B a b) (k:Blw B b c):Blw B a c:=⟨h.toBelow.trans k.toBelow⟩
theorem Blw.mono {B B' : Nat} {w w' : World} (h:Blw B w w') (hB:B' ≤ B):Blw B' w w':=⟨h.toBelow.mono hB⟩
theorem Blw.drew {B:Nat} {a w:World} (h:Blw B a w):Blw B a w.drew:=⟨h.toBelow.drew⟩
theorem Blw.alloc {B:Nat} {a w:World} (h:Blw B a w) (hB:B≤w.heap.size) (o:Obj):Blw B a (w.alloc o):=⟨h.toBelow.alloc hB o⟩
def gm (w:World) (p:Regrown):World:=gw w p
theorem z0X (w:World):w=gm w ⟨w.drawn,#[]⟩:=z1X w
theorem gm_two (w:World) (p q:Regrown) : ∃ r:Regrown,gm (gm w p) q=gm w r:=gw_two w p q
theorem z5y (w:World) (p:Regrown):Blw w.heap.size w (gm w p):=⟨z3h w p⟩
theorem z4v {w w' : World} (h:Blw w.heap.size w w') : ∃ p:Regrown,w' = gm w p:=z2K h.toBelow
inductive PV where
 | val (v:Value)
 | seq (n:Nat) (rows:List (List PV))
instance:Inhabited PV:=⟨.val (.bool false)⟩
inductive PR (D:Nat→Prop) (w:World):PV→Value→Prop where
 | val (v:Value) (h:v.oneCell' = true):PR D w (.val v) v
 | nil (n:Nat) (a:Option Addr) (cap:Nat) (h0:a=none→cap=0):PR D w (.seq n []) (.slice a 0 cap)
 | seq (n b off cap:Nat) (rows:List (List PV)) (f:Nat→Nat→Value) (hb:b<w.heap.size) (hD : ¬ D b) (hcap:rows.length≤cap) (hmax:cap≤maxLen)
   (hn : ∀ r ∈ rows,r.length=n)
   (hc : ∀ k r j x,rows[k]? = some r→r[j]? = some x→w.cell? ⟨b,off+k*n+j,none⟩=some (f k j))
   (hr : ∀ k r j x,rows[k]? = some r→r[j]? = some x→PR D w x (f k j)):PR D w (.seq n rows) (.slice (some ⟨b,off,none⟩) rows.length cap)
structure Kp (D:Nat→Prop) (w w' : World):Prop where
 os:w'.os=w.os
 tape:w'.tape=w.tape
 output:w'.output=w.output
 size:w.heap.size≤w'.heap.size
 block : ∀ k,k<w.heap.size → ¬ D k→w'.heap[k]? = w.heap[k]?
theorem Kp.refl (D:Nat→Prop) (w:World):Kp D w w:=⟨rfl,rfl,rfl,Nat.le_refl _,fun _ _ _=>rfl⟩
theorem Kp.trans {D D1:Nat→Prop} {a b c:World} (h:Kp D a b) (k:Kp D1 b c) (hD : ∀ x,D1 x→D x∨a.heap.size≤x):Kp D a c :=
 ⟨k.os.trans h.os,k.tape.trans h.tape,k.output.trans h.output,Nat.le_trans h.size k.size,fun i hi hn=>(k.block i (Nat.lt_of_lt_of_le hi h.size) (fun h1=>(hD i h1).elim hn (fun h2=>by omega))).trans (h.block i hi hn)⟩
theorem Kp.of_below {D:Nat→Prop} {w w' : World} (h:Blw w.heap.size w w'):Kp D w w':=⟨h.os,h.tape,h.output,h.size,fun k hk _=>h.block k hk⟩
theorem Kp.below {w w' : World} (h:Kp (fun _=>False) w w'):Blw w.heap.size w w':=⟨⟨h.os,h.tape,h.output,h.size,fun k hk=>h.block k hk id⟩⟩
theorem Kp.cell {D:Nat→Prop} {w w' : World} (h:Kp D w w') {b o:Nat} (hb:b<w.heap.size) (hn : ¬ D b):w'.cell? ⟨b,o,none⟩=w.cell? ⟨b,o,none⟩:=World.cell?_of_block (w:=w) (h.block b hb hn)
theorem PR.one {D:Nat→Prop} {w:World} {x:PV} {v:Value} (h:PR D w x v):v.oneCell' = true:=by
 cases h <;> first|assumption|rfl
theorem PR.mono {D D' : Nat→Prop} {w w' : World} {x:PV} {v:Value} (h:PR D w x v) (hk:Kp D w w') (hD : ∀ k,k<w.heap.size→D' k→D k):PR D' w' x v:=by
 induction h with
 | val v h=>exact .val v h
 | nil n a cap h0=>exact .nil n a cap h0
 | seq n b off cap rows f hb hnD hcap hmax hn hc hr ih =>
  exact .seq n b off cap rows f (Nat.lt_of_lt_of_le hb hk.size) (fun h=>hnD (hD _ hb h)) hcap hmax hn (fun k r j x h1 h2=>(hk.cell hb hnD).trans (hc k r j x h1 h2)) ih
inductive AV where
 | p (x:PV)
 | elt (row:List PV) (off:Nat)
 | ptr (t off:Nat)
 | rptr (t n k off:Nat)
 | own (t:Nat)
 | pre (t m:Nat)
 | suf (t n m:Nat)
 | cap0
 | fn (f:Fn) (caps:List AV)
 | agg (cs:List AV)
 | tup (cs:List AV)
 | zy
instance:Inhabited AV:=⟨.zy⟩
inductive AR (N:Nat) (D:Nat→Prop) (loc:Nat→Option Value) (w:World):AV→Value→Prop where
 | p (x:PV) (v:Value) (h:PR D w x v):AR N D loc w (.p x) v
 | elt (row:List PV) (off b o:Nat) (f:Nat→Value) (hb:b<w.heap.size) (hD : ¬ D b) (hc : ∀ j x,row[j]? = some x→w.cell? ⟨b,o+j,none⟩=some (f j)) (hr : ∀ j x,row[j]? = some x→PR D w x (f j)) :
   AR N D loc w (.elt row off) (.pointer (some ⟨b,o+off,none⟩))
 | ptr (t off:Nat) (v:Value) (ht:t<N) (h1:v.oneCell' = true) (h : ∀ b,loc t=some (.pointer (some ⟨b,0,none⟩))→v = .pointer (some ⟨b,off,none⟩)):AR N D loc w (.ptr t off) v
 | rptr (t n k off:Nat) (v:Value) (ht:t<N) (h1:v.oneCell' = true) (h : ∀ b l c,loc t=some (.slice (some ⟨b,0,none⟩) l c)→v = .pointer (some ⟨b,k*n+off,none⟩)):AR N D loc w (.rptr t n k off) v
 | own (t:Nat) (v:Value) (ht:t<N) (h1:v.oneCell' = true) (h : ∀ u,loc t=some u→v=u):AR N D loc w (.own t) v
 | pre (t m:Nat) (v:Value) (ht:t<N) (h1:v.oneCell' = true) (h : ∀ b l c,loc t=some (.slice (some ⟨b,0,none⟩) l c)→v = .slice (some ⟨b,0,none⟩) m c):AR N D loc w (.pre t m) v
 | suf (t n m:Nat) (v:Value) (ht:t<N) (h1:v.oneCell' = true) (h : ∀ b l c,loc t=some (.slice (some ⟨b,0,none⟩) l c) → ∃ o,v = .slice (some ⟨b,o,none⟩) (l-m) (c-m)∧(m<c→o=m*n)):AR N D loc w (.suf t n m) v
 | fn (f:Fn) (caps:List AV) (vs:Array Value) (hl:vs.size=caps.length) (h : ∀ j x,caps[j]? = some x→AR N D loc w x (vs.getD j undef)):AR N D loc w (.fn f caps) (.func f #[] vs)
 | agg (cs:List AV) (vs:Array Value) (hl:vs.size=cs.length) (h : ∀ j x,cs[j]? = some x→AR N D loc w x (vs.getD j undef)) (h1 : ∀ j,j<vs.size→(vs.getD j undef).oneCell' = true):AR N D loc w (.agg cs) (.agg vs)
 | tup (cs:List AV) (vs:Array Value) (hl:vs.size=cs.length) (h : ∀ j x,cs[j]? = some x→AR N D loc w x (vs.getD j undef)):AR N D loc w (.tup cs) (.tuple vs)
 | cap0 (a:Option Addr) (h : ∀ x,a=some x→x.block<w.heap.size ∧ ¬ D x.block∧x.spot=none):AR N D loc w .cap0 (.slice a 0 0)
 | zy (v:Value):AR N D loc w .zy v
theorem AR.mono {N N' : Nat} {D D' : Nat→Prop} {loc loc' : Nat→Option Value} {w w' : World} {x:AV} {v:Value} (h:AR N D loc w x v) (hN:N≤N') (hk:Kp D w w') (hD : ∀ k,k<w.heap.size→D' k→D k)
  (hl : ∀ t u,t<N→loc' t=some u→loc t=some u):AR N' D' loc' w' x v:=by
 induction h with
 | p x v h=>exact .p x v (h.mono hk hD)
 | elt row off b o f hb hnD hc hr=>exact .elt row off b o f (Nat.lt_of_lt_of_le hb hk.size) (fun h=>hnD (hD _ hb h)) (fun j x h1=>(hk.cell hb hnD).trans (hc j x h1)) (fun j x h1=>(hr j x h1).mono hk hD)
 | ptr t off v ht h1 h=>exact .ptr t off v (Nat.lt_of_lt_of_le ht hN) h1 (fun b hb=>h b (hl t _ ht hb))
 | rptr t n k off v ht h1 h=>exact .rptr t n k off v (Nat.lt_of_lt_of_le ht hN) h1 (fun b l c hb=>h b l c (hl t _ ht hb))
 | own t v ht h1 h=>exact .own t v (Nat.lt_of_lt_of_le ht hN) h1 (fun u hu=>h u (hl t u ht hu))
 | pre t m v ht h1 h=>exact .pre t m v (Nat.lt_of_lt_of_le ht hN) h1 (fun b l c hu=>h b l c (hl t _ ht hu))
 | suf t n m v ht h1 h=>exact .suf t n m v (Nat.lt_of_lt_of_le ht hN) h1 (fun b l c hu=>h b l c (hl t _ ht hu))
 | cap0 a h=>exact .cap0 a fun x hx=>⟨Nat.lt_of_lt_of_le (h x hx).1 hk.size,fun hd=>(h x hx).2.1 (hD _ (h x hx).1 hd),(h x hx).2.2⟩
 | fn f caps vs hlen _ ih=>exact .fn f caps vs hlen ih
 | agg cs vs hlen _ h1 ih=>exact .agg cs vs hlen ih h1
 | tup cs vs hlen _ ih=>exact .tup cs vs hlen ih
 | zy v=>exact .zy v
def AV.okB (n:Nat):AV→Bool
 | .ptr t _=>decide (t<n)
 | .rptr t _ _ _=>decide (t<n)
 | .own t=>decide (t<n)
 | .pre t _=>decide (t<n)
 | .suf t _ _=>decide (t<n)
 | .fn _ cs=>cs.attach.all fun ⟨c,_⟩=>c.okB n
 | .agg cs=>cs.attach.all fun ⟨c,_⟩=>c.okB n
 | .tup cs=>cs.attach.all fun ⟨c,_⟩=>c.okB n
 | _=>true
theorem AR.low {N n:Nat} {D:Nat→Prop} {loc:Nat→Option Value} {w:World} {x:AV} {v:Value} (h:AR N D loc w x v) (hx:x.okB n=true):AR n D loc w x v:=by
 induction h with
 | p x v h=>exact .p x v h
 | elt row off b o f hb hnD hc hr=>exact .elt row off b o f hb hnD hc hr
 | ptr t off v ht h1 h=>exact .ptr t off v (by simpa [AV.okB] using hx) h1 h
 | rptr t n k off v ht h1 h=>exact .rptr t n k off v (by simpa [AV.okB] using hx) h1 h
 | own t v ht h1 h=>exact .own t v (by simpa [AV.okB] using hx) h1 h
 | pre t m v ht h1 h=>exact .pre t m v (by simpa [AV.okB] using hx) h1 h
 | suf t k m v ht h1 h=>exact .suf t k m v (by simpa [AV.okB] using hx) h1 h
 | cap0 a h=>exact .cap0 a h
 | fn f caps vs hlen _ ih =>
  simp only [AV.okB,List.all_eq_true,List.mem_attach,forall_const,Subtype.forall] at hx
  exact .fn f caps vs hlen fun j y hy=>ih j y hy (hx y (List.mem_of_getElem? hy))
 | agg cs vs hlen _ h1 ih =>
  simp only [AV.okB,List.all_eq_true,List.mem_attach,forall_const,Subtype.forall] at hx
  exact .agg cs vs hlen (fun j y hy=>ih j y hy (hx y (List.mem_of_getElem? hy))) h1
 | tup cs vs hlen _ ih =>
  simp only [AV.okB,List.all_eq_true,List.mem_attach,forall_const,Subtype.forall] at hx
  exact .tup cs vs hlen fun j y hy=>ih j y hy (hx y (List.mem_of_getElem? hy))
 | zy v=>exact .zy v
structure LSpec where
 n:Nat
 fn:FuncId
 ps:Array Tmp
 assign:Code
 body:Code
 D:Nat
inductive AO where
 | boxP (pin:Option Nat) (ty:TypeId) (cs:List AV)
 | row (e:TypeId) (n:Nat) (rows:List (List PV))
 | map (pin:Option Nat) (P:Program) (k:TypeId) (n:Nat) (f:Lit→Option Value)
 | raw (u:Value) (ob:Obj)
 | lrec (l:Nat) (sp:LSpec) (fr:List (Nat × AV))
 | amap (P:Program) (k:TypeId) (n:Nat) (f:Lit→Option AV) (q:Option (Nat × Lit))
 | arow (e:TypeId) (cs:List AV)
 | afix (e:TypeId) (n len:Nat) (cs:List AV)
@[reducible] def AO.box (ty:TypeId) (cs:List AV):AO := .boxP none ty cs
def z2L (v:Value):Option (DataW Value × List MemPlace):=some (.held v,[])
def z2H (D:DataW Value) (f:Lit→Option Value):Prop := ∀ kl,WideAt.IsKeyLit kl → ∀ z,D.atKey kl z=match f kl with
 | some v => .held v
 | none=>z
def MPend (w:World) (b:Nat) (P:Program) (k:TypeId):Option (Nat × Lit)→Prop
 | none=>True
 | some p => ∃ es ck e,w.heap[b]? = some (.map es ck)∧e ∈ es.toList∧e.born=p.1∧keyOf P k e.key=some p.2
theorem MPend.mono {w w' : World} {b:Nat} {P:Program} {k:TypeId} {q:Option (Nat × Lit)} (h:MPend w b P k q) (hb:w'.heap[b]? = w.heap[b]?):MPend w' b P k q:=by
 cases q with
 | none=>trivial
 | some p=>obtain ⟨es,ck,e,h1,h2⟩:=h;exact ⟨es,ck,e,hb.trans h1,h2⟩
def ql:Value→Option Nat
 | .pointer (some a)=>some a.block
 | .slice (some a) _ _=>some a.block
 | .map (some r)=>some r
 | .func (.yield l) _ _=>some l
 | _=>none
def Dm (L:Nat→Prop) (loc:Nat→Option Value) (b:Nat):Prop:=L b ∨ ∃ t u,loc t=some u∧ql u=some b
def OR (N:Nat) (D:Nat→Prop) (loc:Nat→Option Value) (w:World) (u:Value):AO→Prop
 | .boxP pin ty cs => ∃ b arr,u = .pointer (some ⟨b,0,none⟩)∧w.heap[b]? = some (.cells arr ty (0,0))∧arr.size=cs.length∧(∀ j x,cs[j]? = some x→AR N D loc w x (arr.getD j undef))∧(∀ j,j<arr.size→(arr.getD j undef).oneCell' = true) ∧ ∀ p,pin=some p→p=b
 | .row e n rows => ∃ flat,w.ownsRow 0 e n u rows.length flat∧(∀ r ∈ rows,r.length=n)∧(∀ k r j x,rows[k]? = some r→r[j]? = some x → ∃ v,flat[k*n+j]? = some v∧PR D w x v) ∧ ∀ v ∈ flat,v.oneCell' = true
 | .map pin P k n f => ∃ b D,u = .map (some b)∧w.ownsMap (H:=Value) P k z2L b n D∧z2H D f ∧ ∀ p,pin=some p→p=b
 | .raw v ob => ∃ b,u=v∧ql v=some b∧w.heap[b]? = some ob
 | .lrec l sp fr=>u = .func (.yield l) #[] #[] ∧ ∃ tmps:Array Value,w.heap[l]? = some (.loop { state := .ready,pending:=none,fn:=sp.fn,tmps:=tmps,params:=sp.ps,assign:=sp.assign,body:=sp.body,defers:=sp.D })∧tmps.size=sp.n ∧ ∀ t,AR N D loc w ((fr.lookup t).getD .zy) (tmps.getD t undef)
 | .amap P k n f q => ∃ b DD g,u = .map (some b)∧w.ownsMap (H:=Value) P k z2L b n DD∧z2H DD g∧(∀ kl,(∀ x,f kl=some x → ∃ v,g kl=some v∧AR N D loc w x v)∧(f kl=none→g kl=none))∧MPend w b P k q
 | .arow e cs => ∃ flat,w.ownsRow 0 e 1 u cs.length flat∧(∀ (j:Nat) x,cs[j]? = some x → ∃ v,flat[j]? = some v∧AR N D loc w x v) ∧ ∀ v ∈ flat,v.oneCell' = true
 | .afix e n len cs => ∃ flat,w.ownsRow 0 e n u len flat∧(∀ (j:Nat) x,cs[j]? = some x → ∃ v,flat[j]? = some v∧AR N D loc w x v) ∧ ∀ v ∈ flat,v.oneCell' = true
abbrev Hp:=List (Nat × AO)
structure HRel (L:Nat→Prop) (N:Nat) (hp:Hp) (loc:Nat→Option Value) (w:World):Prop where
 at' : ∀ t o,hp.lookup t=some o→t<N ∧ ∃ u,loc t=some u∧OR N (Dm L loc) loc w u o
 dead : ∀ t,hp.lookup t=none→loc t=none
 apart : ∀ t t' u u' b,loc t=some u→loc t' = some u' → ql u=some b→ql u' = some b→t=t'
 inL : ∀ b,L b→b<w.heap.size
 notL : ∀ t u b,loc t=some u→ql u=some b → ¬ L b
structure Lim where
 blk:Nat→Prop
 ds:List Deferred
instance:CoeFun Lim (fun _=>Nat→Prop):=⟨Lim.blk⟩
instance:Coe Lim (Nat→Prop):=⟨Lim.blk⟩
structure ASt where
 fr:List (Nat × AV)
 hp:Hp
 n:Nat
 N:Nat
def ASt.get (s:ASt) (t:Nat):AV:=(s.fr.lookup t).getD .zy
def ASt.put (s:ASt) (d:Option Nat) (x:AV):ASt:=match d with
 | some t => { s with fr:=(t,x) :: s.fr }
 | none=>s
def cv (v:Value):AV:=if v.oneCell' then .p (.val v) else match v with
 | .agg vs=>if vs.all (·.oneCell') then .agg (vs.toList.map fun v => .p (.val v)) else .zy
 | _ => .zy
def ASt.ev (s:ASt):Operand→AV
 | .tmp t=>s.get t
 | .const v=>cv v
 | .func f => .fn (.func f) []
 | .global g => .p (.val (.pointer (some ⟨g,0,none⟩)))
structure Rel (X:Nat→Prop) (L:Lim) (s:ASt) (loc:Nat→Option Value) (a:Act) (w:World):Prop where
 defers:a.defers=L.ds
 size:a.tmps.size=s.n
 fr : ∀ t,X t→AR s.N (Dm L loc) loc w (s.get t) (slot a t)
 hp:HRel L s.N s.hp loc w
abbrev All:Nat→Prop:=fun _=>True
structure Ext (loc:Nat→Option Value) (w:World) (loc' : Nat→Option Value) (w' : World):Prop where
 kp:Kp (Dm (fun _=>False) loc) w w'
 fresh : ∀ b,Dm (fun _=>False) loc' b→Dm (fun _=>False) loc b∨w.heap.size≤b
theorem Ext.refl (loc:Nat→Option Value) (w:World):Ext loc w loc w:=⟨Kp.refl _ _,fun _ h => .inl h⟩
theorem Ext.trans {l1 l2 l3:Nat→Option Value} {a b c:World} (h:Ext l1 a l2 b) (k:Ext l2 b l3 c):Ext l1 a l3 c :=
 ⟨h.kp.trans k.kp h.fresh,fun x hx=>(k.fresh x hx).elim (h.fresh x) (fun h2 => .inr (Nat.le_trans h.kp.size h2))⟩
theorem Ext.of_below {loc:Nat→Option Value} {w w' : World} (h:Blw w.heap.size w w'):Ext loc w loc w':=⟨.of_below h,fun _ h => .inl h⟩
theorem OR.mono {N N' : Nat} {D D' : Nat→Prop} {loc loc' : Nat→Option Value} {w w' : World} {u:Value} {o:AO} (h:OR N D loc w u o) (hN:N≤N') (hk:Kp D w w') (hD : ∀ k,k<w.heap.size→D' k→D k)
  (hl : ∀ t u,t<N→loc' t=some u→loc t=some u) (hb : ∀ b,ql u=some b→w'.heap[b]? = w.heap[b]?):OR N' D' loc' w' u o:=by
 cases o with
 | map pin P k n f =>
  obtain ⟨b,D,rfl,⟨es,ck,h1,h2⟩,h3⟩:=h
  exact ⟨b,D,rfl,⟨es,ck,(hb b rfl).trans h1,h2⟩,h3⟩
 | amap P k n f q =>
  obtain ⟨b,DD,g,rfl,⟨es,ck,h1,h2⟩,h3,h4,h5⟩:=h
  exact ⟨b,DD,g,rfl,⟨es,ck,(hb b rfl).trans h1,h2⟩,h3,fun kl=>⟨fun x hx=>let ⟨v,k1,k2⟩:=(h4 kl).1 x hx;⟨v,k1,k2.mono hN hk hD hl⟩,(h4 kl).2⟩,h5.mono (hb b rfl)⟩
 | arow e cs =>
  obtain ⟨flat,h1,h3,h4⟩:=h
  refine ⟨flat,qX h1 fun g hg=>hb g ?_,fun j x hx=>?_,h4⟩
  ·cases u <;> simp [Value.ownBlock] at hg
   rename_i ad _ _
   cases ad <;> simp at hg
   simp [ql,hg]
  ·obtain ⟨v,h5,h6⟩:=h3 j x hx
   exact ⟨v,h5,h6.mono hN hk hD hl⟩
 | afix e m9 len cs =>
  obtain ⟨flat,h1,h3,h4⟩:=h
  refine ⟨flat,qX h1 fun g hg=>hb g ?_,fun j x hx=>?_,h4⟩
  ·cases u <;> simp [Value.ownBlock] at hg
   rename_i ad _ _
   cases ad <;> simp at hg
   simp [ql,hg]
  ·obtain ⟨v,h5,h6⟩:=h3 j x hx
   exact ⟨v,h5,h6.mono hN hk hD hl⟩
 | raw v ob =>
  obtain ⟨b,rfl,h1,h2⟩:=h
  exact ⟨b,rfl,h1,(hb b h1).trans h2⟩
 | lrec l sp fr =>
  obtain ⟨rfl,tmps,h1,h2,h3⟩:=h
  exact ⟨rfl,tmps,(hb l rfl).trans h1,h2,fun t=>(h3 t).mono hN hk hD hl⟩
 | boxP pin ty cs =>
  obtain ⟨b,arr,rfl,h1,h2,h3,h4⟩:=h
  exact ⟨b,arr,rfl,(hb b rfl).trans h1,h2,fun j x hx=>(h3 j x hx).mono hN hk hD hl,h4⟩
 | row e n rows =>
  obtain ⟨flat,h1,h2,h3,h4⟩:=h
  refine ⟨flat,qX h1 fun g hg=>hb g ?_,h2,fun k r j x hr hx=>?_,h4⟩
  ·cases u <;> simp [Value.ownBlock] at hg
   rename_i ad _ _
   cases ad <;> simp at hg
   simp [ql,hg]
  ·obtain ⟨v,h5,h6⟩:=h3 k r j x hr hx
   exact ⟨v,h5,h6.mono hk hD⟩
theorem OR.z0n {N:Nat} {D:Nat→Prop} {loc:Nat→Option Value} {w:World} {u:Value} {o:AO} (h:OR N D loc w u o) {b:Nat} (hb:ql u=some b):b<w.heap.size:=by
 cases o with
 | map pin P k n f =>
  obtain ⟨b',D,rfl,⟨es,ck,h1,h2⟩,h3⟩:=h
  cases hb
  exact (Array.getElem?_eq_some_iff.1 h1).1
 | amap P k n f q =>
  obtain ⟨b',DD,g,rfl,⟨es,ck,h1,h2⟩,h3⟩:=h
  cases hb
  exact (Array.getElem?_eq_some_iff.1 h1).1
 | arow e cs =>
  obtain ⟨flat,h1,_⟩:=h
  refine (h1.lt b ?_).2
  rcases h1.2 with ⟨rfl,_⟩|⟨g,c,cur,rfl,_⟩
  ·cases hb
  ·cases hb;rfl
 | afix e m9 len cs =>
  obtain ⟨flat,h1,_⟩:=h
  refine (h1.lt b ?_).2
  rcases h1.2 with ⟨rfl,_⟩|⟨g,c,cur,rfl,_⟩
  ·cases hb
  ·cases hb;rfl
 | raw v ob =>
  obtain ⟨b',rfl,h1,h2⟩:=h
  rw [h1] at hb
  cases hb
  exact (Array.getElem?_eq_some_iff.1 h2).1
 | lrec l sp fr =>
  obtain ⟨rfl,tmps,h1,_⟩:=h
  cases hb
  exact (Array.getElem?_eq_some_iff.1 h1).1
 | boxP pin ty cs =>
  obtain ⟨b',arr,rfl,h1,_⟩:=h
  cases hb
  exact (Array.getElem?_eq_some_iff.1 h1).1
 | row e n rows =>
  obtain ⟨flat,h1,_⟩:=h
  refine (h1.lt b ?_).2
  rcases h1.2 with ⟨rfl,_⟩|⟨g,c,cur,rfl,_⟩
  ·cases hb
  ·cases hb;rfl
theorem HRel.z1k {L:Nat→Prop} {N:Nat} {hp:Hp} {loc:Nat→Option Value} {w:World} (h:HRel L N hp loc w) {t:Nat} {u:Value} (hu:loc t=some u) : ∃ o,hp.lookup t=some o∧OR N (Dm L loc) loc w u o:=by
 cases ho:hp.lookup t with
 | none=>rw [h.dead t ho] at hu;cases hu
 | some o =>
  obtain ⟨_,u',h1,h2⟩:=h.at' t o ho
  rw [hu] at h1
  cases h1
  exact ⟨o,rfl,h2⟩
theorem HRel.z7d {L:Nat→Prop} {N:Nat} {hp:Hp} {loc:Nat→Option Value} {w:World} (h:HRel L N hp loc w) {b:Nat} (hb:Dm L loc b):b<w.heap.size:=by
 rcases hb with hb|⟨t,u,h1,h2⟩
 ·exact h.inL b hb
 ·obtain ⟨o,_,ho⟩:=h.z1k h1
  exact ho.z0n h2
theorem HRel.below {L:Nat→Prop} {N:Nat} {hp:Hp} {loc:Nat→Option Value} {w w' : World} (h:HRel L N hp loc w) (hb:Blw w.heap.size w w'):HRel L N hp loc w' :=
 ⟨fun t o ho=>by
  obtain ⟨h1,u,h2,h3⟩:=h.at' t o ho
  exact ⟨h1,u,h2,h3.mono (Nat.le_refl _) (.of_below hb) (fun _ _ h=>h) (fun _ _ _ h=>h) (fun b hb'=>hb.block b (h3.z0n hb'))⟩,
 h.dead,h.apart,fun b hL=>Nat.lt_of_lt_of_le (h.inL b hL) hb.size,h.notL⟩
theorem AR.blw {N:Nat} {D:Nat→Prop} {loc:Nat→Option Value} {w w' : World} {x:AV} {v:Value} (h:AR N D loc w x v) (hb:Blw w.heap.size w w'):AR N D loc w' x v :=
 h.mono (Nat.le_refl _) (.of_below hb) (fun _ _ h=>h) (fun _ _ _ h=>h)
theorem Rel.below {X:Nat→Prop} {L:Lim} {s:ASt} {loc:Nat→Option Value} {a:Act} {w w' : World} (h:Rel X L s loc a w) (hb:Blw w.heap.size w w'):Rel X L s loc a w' :=
 ⟨h.defers,h.size,fun t ht=>(h.fr t ht).blw hb,h.hp.below hb⟩
theorem ASt.get_put (s:ASt) (d t:Nat) (x:AV):(s.put (some d) x).get t=if t=d then x else s.get t:=by
 simp only [ASt.get,ASt.put,List.lookup_cons]
 by_cases h:t=d
 ·subst h;simp
 ·have:(t==d)=false:=by simpa using h
  simp [this,h]
theorem Rel.put {X:Nat→Prop} {L:Lim} {s:ASt} {loc:Nat→Option Value} {a:Act} {w:World} (h:Rel X L s loc a w) {d:Nat} (hd:d<s.n) {x:AV} {v:Value} (hx:AR s.N (Dm L loc) loc w x v):Rel (fun t=>t=d∨X t) L (s.put (some d) x) loc (a.put (some d) v) w :=
 ⟨h.defers,(size_put _ _ _).trans h.size,fun t ht=>by
  rw [ASt.get_put,qi a d t v (by rw [h.size];exact hd)]
  by_cases e:t=d
  ·rw [if_pos e,if_pos e];exact hx
  ·rw [if_neg e,if_neg e];exact h.fr t (ht.resolve_left e),h.hp⟩
theorem Rel.put' {L:Lim} {s:ASt} {loc:Nat→Option Value} {a:Act} {w:World} (h:Rel All L s loc a w) {d:Option Nat} (hd : ∀ t,d=some t→t<s.n) {x:AV} {v:Value} (hx:AR s.N (Dm L loc) loc w x v):Rel All L (s.put d x) loc (a.put d v) w:=by
 cases d with
 | none=>exact h
 | some d =>
  have:=h.put (hd d rfl) hx
  exact ⟨this.defers,this.size,fun t _=>this.fr t (.inr trivial),this.hp⟩
theorem z5u (N:Nat) (D:Nat→Prop) (loc:Nat→Option Value) (w:World) (v:Value):AR N D loc w (cv v) v:=by
 unfold cv
 split
 ·rename_i h;exact .p _ _ (.val v h)
 ·cases v <;> try exact .zy _
  rename_i vs hno
  dsimp only
  split
  ·rename_i h
   have h':=Array.all_eq_true_iff_forall_mem.1 h
   refine .agg _ vs (by simp) (fun j x hx=>?_) (fun j hj=>?_)
   ·simp only [List.getElem?_map,Option.map_eq_some_iff] at hx
    obtain ⟨u,hu,rfl⟩:=hx
    have hu' : vs[j]? = some u:=by simpa using hu
    rw [Array.getD_eq_getD_getElem?,hu']
    exact .p _ _ (.val u (h' u (Array.mem_of_getElem? hu')))
   ·rw [Array.getD_eq_getD_getElem?,Array.getElem?_eq_getElem hj]
    exact h' _ (Array.getElem_mem hj)
  ·exact .zy _
theorem Rel.ev {X:Nat→Prop} {L:Lim} {s:ASt} {loc:Nat→Option Value} {a:Act} {w:World} (h:Rel X L s loc a w) (x:Operand) (hx : ∀ t,x = .tmp t→X t):AR s.N (Dm L loc) loc w (s.ev x) (a.eval x):=by
 cases x with
 | tmp t=>exact h.fr t (hx t rfl)
 | const v=>exact z5u _ _ _ _ v
 | global g=>exact .p _ _ (.val _ rfl)
 | func f=>exact .fn _ [] #[] rfl (fun j x hx=>by cases hx)
def mark (D:Nat):Deferred := { target := .collected D,args := #[] }
structure LX (L:Lim) (w:World) (L' : Lim) (w' : World):Prop where
 ds : ∃ new:List Nat,L'.ds=new.map mark++L.ds∧new.Nodup ∧ ∀ D ∈ new,w.heap.size≤D∧L' D∧w'.heap[D]? = some (.deferred (some []))
 sub : ∀ b,L b→L' b
 new : ∀ b,L' b→L b∨w.heap.size≤b
theorem LX.refl (L:Lim) (w w' : World):LX L w L w':=⟨⟨[],by simp,List.nodup_nil,fun D h=>by cases h⟩,fun _ h=>h,fun _ h => .inl h⟩
theorem LX.trans {L L1 L2:Lim} {w w1 w2:World} {l1 l2:Nat→Option Value} (h:LX L w L1 w1) (k:LX L1 w1 L2 w2) (hx:Ext l1 w1 l2 w2) (hn : ∀ t u b,l1 t=some u→ql u=some b → ¬ L1 b) (hs:w.heap.size≤w1.heap.size):LX L w L2 w2:=by
 obtain ⟨n1,e1,d1,h1⟩:=h.ds
 obtain ⟨n2,e2,d2,h2⟩:=k.ds
 refine ⟨⟨n2++n1,by rw [e2,e1,List.map_append,List.append_assoc],List.nodup_append.2 ⟨d2,d1,fun a ha b hb e=>?_⟩,fun D hD=>?_⟩,fun b hb=>k.sub b (h.sub b hb),fun b hb=>(k.new b hb).elim (h.new b) (fun h => .inr (by omega))⟩
 ·subst e
  have:=(h2 a ha).1
  have:=(Array.getElem?_eq_some_iff.1 (h1 a hb).2.2).1
  omega
 ·rcases List.mem_append.1 hD with hD|hD
  ·obtain ⟨g1,g2,g3⟩:=h2 D hD
   exact ⟨by omega,g2,g3⟩
  ·obtain ⟨g1,g2,g3⟩:=h1 D hD
   refine ⟨g1,k.sub D g2,(hx.kp.block D (Array.getElem?_eq_some_iff.1 g3).1 ?_).trans g3⟩
   rintro (h|⟨t,u,e3,e4⟩)
   ·exact h
   ·exact hn t u D e3 e4 g2
def z0r (L:Lim) (loc:Nat→Option Value) (w:World) (Q:Exit→ASt→Prop) (e:Exit) (a' : Act) (w' : World):Prop := ∃ s' loc',Q e s' ∧ (∃ L',Rel All L' s' loc' a' w' ∧ LX L w L' w')∧Ext loc w loc' w'
theorem z0r.of {L:Lim} {loc loc' : Nat→Option Value} {w:World} {Q:Exit→ASt→Prop} {e:Exit} {a' : Act} {w' : World} {s' : ASt} (h:Q e s') (hr:Rel All L s' loc' a' w') (hx:Ext loc w loc' w'):z0r L loc w Q e a' w':=⟨s',loc',h,⟨L,hr,.refl _ _ _⟩,hx⟩
def T (F:Fence) (P:Program) (c:Code) (Q:Exit→ASt→Prop) (s:ASt):Prop := ∀ L loc a w,Rel All L s loc a w→c.wpIn F 0 P (z0r L loc w Q) a w
class FOk (F:Fence):Prop where
 h:F=Fence.wide ∨ ∃ l,F=Fence.wide.inRound l
instance:FOk Fence.wide:=⟨.inl rfl⟩
instance (l:Nat):FOk (Fence.wide.inRound l):=⟨.inr ⟨l,rfl⟩⟩
theorem FOk.fn {F:Fence} [k:FOk F] (f:FuncId):F.fn f:=by rcases k.h with rfl|⟨l,rfl⟩ <;> trivial
theorem FOk.depth {F:Fence} [k:FOk F] : F.depth=none:=by rcases k.h with rfl|⟨l,rfl⟩ <;> rfl
theorem FOk.calls {F:Fence} [k:FOk F] {n:Nat} {P:Program} {f:FuncId} {args:Array Value} {w:World} {R:Ending→World→Prop} (h:Calls P f args w R):CallsIn F n P f args w R:=by
 rcases k.h with rfl|⟨l,rfl⟩
 ·exact callsIn_wide.2 h
 ·exact (callsIn_wide (n:=n).2 h:CallsIn Fence.wide n P f args w R)
theorem FOk.rows {F:Fence} [k:FOk F] {n:Nat} {P:Program} {row:String} {args:Array Value} {w:World} {R:Value→World→Prop} (h:Rows P row args w R):RowsIn F n P row args w R:=fun c cs _=>by
 obtain ⟨v,w',r,s⟩:=h c cs
 refine ⟨v,w',r,?_⟩
 rcases k.h with rfl|⟨l,rfl⟩
 ·exact stepsIn_wide.2 s
 ·exact (stepsIn_wide.2 s:StepsIn (Machine.fenced P Fence.wide) P _ _)
def z3N (o:Oper):Bool:=match o.op with
 | .defer _=>false
 | _=>true
theorem z5l {F:Fence} [FOk F] {P:Program} {o:Oper} {a:Act} {w:World} {K:Act→World→Prop} {Q:Exit→Act→World→Prop} (hd:z3N o=true) (h:o.wp P a w K Q):o.wpIn F 0 P a w K Q:=by
 refine ⟨fun _ _=>FOk.fn _,?_⟩
 rw [Oper.semAt_eq F.round a.eval o (fun c e=>by simp [z3N,e] at hd)]
 unfold Oper.wp at h
 generalize (execOp a.eval o).run P w=r at *
 have hdp:(F.depth.isSome=true → 1≤0):=by rw [FOk.depth (F:=F)];intro h;cases h
 cases r with
 | ok n w' =>
  cases n <;> simp only [Oper.upon,Oper.uponIn] at h ⊢
  all_goals first
   | exact h
   | exact ⟨hdp,FOk.calls h⟩
   | exact ⟨hdp,FOk.rows h⟩
 | halt x w'=>cases x <;> exact h
theorem z5D {F:Fence} [FOk F] {P:Program} {ops:Array Oper} {Q:Exit→Act→World→Prop} (hQ : ∀ a w,¬ Q .outgrown a w) : ∀ (l:List Oper) (a:Act) (w:World),(∀ o ∈ l,z3N o=true)→wpList P ops Q l a w→wpListIn F 0 P ops Q l a w
 | [],a,w,_,h=>h
 | o :: r,a,w,hd,h=>by
  unfold wpList at h
  unfold wpListIn
  have hr : ∀ o ∈ r,z3N o=true:=fun x hx=>hd x (List.mem_cons.2 (.inr hx))
  split
  ·rename_i hw
   rw [if_pos hw] at h
   rcases h with h|⟨_,a',w',h⟩
   ·exact z5l (hd o (List.mem_cons.2 (.inl rfl))) (Oper.wp_mono (fun a w k=>z5D hQ r a w hr k) h)
   ·exact absurd h (hQ _ _)
  ·rename_i hw
   rw [if_neg hw] at h
   exact ⟨fun _ _=>FOk.fn _,z5D hQ r _ w hr h⟩
theorem z3G {F:Fence} [FOk F] {P:Program} {md:Region.Mode} {ops:Array Oper} {Q:Exit→Act→World→Prop} (hQ : ∀ a w,¬ Q .outgrown a w) (hd : ∀ o ∈ ops.toList,z3N o=true) : ∀ (n:Nat) (listed:Array Bool) (a:Act) (w:World),wpAny P md ops Q n listed a w→wpAnyIn F 0 P md ops Q n listed a w
 | 0,_,_,_,h=>h
 | n+1,listed,a,w,h=>⟨h.1,fun i hi=>by
  have h1:=h.2 i hi
  unfold wpOp at h1
  unfold wpOpIn
  cases ho:ops[i]? with
  | none=>rw [ho] at h1;exact z3G hQ hd n _ _ _ h1
  | some o =>
   rw [ho] at h1
   simp only at h1 ⊢
   split
   ·rename_i hw
    rw [if_pos hw] at h1
    rcases h1 with h1|⟨_,a',w',h1⟩
    ·exact z5l (hd o (List.mem_of_getElem? (by simpa using ho))) (Oper.wp_mono (fun a w k=>z3G hQ hd n _ a w k) h1)
    ·exact absurd h1 (hQ _ _)
   ·rename_i hw
    rw [if_neg hw] at h1
    exact ⟨fun _ _=>FOk.fn _,z3G hQ hd n _ _ _ h1⟩⟩
def TL (P:Program) (ops:Array Oper) (Q:Exit→ASt→Prop) (l:List Oper) (s:ASt):Prop := ∀ L loc a w,Rel All L s loc a w→wpList P ops (z0r L loc w Q) l a w
theorem z0r.ext {L:Lim} {l1 l2:Nat→Option Value} {w1 w2:World} {Q:Exit→ASt→Prop} (h:Ext l1 w1 l2 w2) {e:Exit} {a:Act} {w:World} (k:z0r L l2 w2 Q e a w):z0r L l1 w1 Q e a w :=
 let ⟨s',loc',h1,⟨L',h2,h4⟩,h3⟩:=k;⟨s',loc',h1,⟨L',h2,⟨let ⟨n,g1,g2,g3⟩:=h4.ds;⟨n,g1,g2,fun D hD=>let ⟨g4,g5⟩:=g3 D hD;⟨Nat.le_trans h.kp.size g4,g5⟩⟩,h4.sub,fun b hb=>(h4.new b hb).imp id (Nat.le_trans h.kp.size)⟩⟩,h.trans h3⟩
theorem z0r.go {L L1:Lim} {l l1:Nat→Option Value} {w w1:World} {Q:Exit→ASt→Prop} {s1:ASt} {a1:Act} (hr:Rel All L1 s1 l1 a1 w1) (hl:LX L w L1 w1) (hx:Ext l w l1 w1) {e:Exit} {a:Act} {w2:World} (k:z0r L1 l1 w1 Q e a w2):z0r L l w Q e a w2 :=
 let ⟨s',loc',h1,⟨L',h2,h4⟩,h3⟩:=k;⟨s',loc',h1,⟨L',h2,hl.trans h4 h3 hr.hp.notL hx.kp.size⟩,hx.trans h3⟩
theorem LetsOut.mono {Q Q' : Exit→Act→World→Prop} (h : ∀ e a w,Q e a w→Q' e a w):LetsOut Q→LetsOut Q':=fun ⟨a,w,k⟩=>⟨a,w,h _ _ _ k⟩
theorem z2f {P:Program} {o:Oper} {a:Act} {w:World} {K K' : Act→World→Prop} {Q Q' : Exit→Act→World→Prop} (hK : ∀ a w,K a w→K' a w) (h : ∀ e a w,Q e a w→Q' e a w) (hh:o.wp P a w K Q):o.wp P a w K' Q':=by
 unfold Oper.wp at *
 generalize (execOp a.eval o).run P w=r at *
 cases r with
 | ok n w' =>
  cases n <;> simp only [Oper.upon] at hh ⊢ <;>
   first
    | exact hK _ _ hh
    | exact Calls.mono hh (fun e w'' he=>by cases e <;> first|exact hK _ _ he|exact h _ _ _ he|exact LetsOut.mono h he)
    | exact Rows.mono hh (fun _ _ he=>hK _ _ he)
 | halt x w'=>cases x <;> simp only [Oper.upon] at hh ⊢ <;> exact h _ _ _ hh
theorem z0k {P:Program} {ops:Array Oper} {Q Q' : Exit→Act→World→Prop} (h : ∀ e a w,Q e a w→Q' e a w) : ∀ (l:List Oper) (a:Act) (w:World),wpList P ops Q l a w→wpList P ops Q' l a w
 | [],a,w,k=>h _ _ _ k
 | o :: l,a,w,k=>by
  unfold wpList at k ⊢
  split
  ·rename_i hw
   rw [if_pos hw] at k
   exact k.imp (z2f (z0k h l) h) (fun ⟨k1,k2⟩=>⟨k1,LetsOut.mono h k2⟩)
  ·rename_i hw
   rw [if_neg hw] at k
   exact z0k h l _ _ k
def ze (K:ASt→Prop) (Q:Exit→ASt→Prop):Exit→ASt→Prop
 | .normal,s=>K s
 | e,s=>Q e s
def z8 (id:Nat) (Q:Exit→ASt→Prop):Exit→ASt→Prop
 | .exit id',s=>if id' = id then Q .normal s else Q (.exit id') s
 | e,s=>Q e s
section
variable {F:Fence} {P:Program} {Q:Exit→ASt→Prop} {s:ASt}
theorem T.seq {x y:Code} (h:T F P x (ze (T F P y Q) Q) s):T F P (.seq x y) Q s:=fun L loc a w hr=>by
 refine wpIn_seq (wpIn_mono (h L loc a w hr) fun e a' w' ⟨s',loc',h1,h2,h3⟩=>?_)
 cases e with
 | normal =>
  obtain ⟨L1,h2,hl⟩:=h2
  exact wpIn_mono (h1 L1 loc' a' w' h2) fun e a2 w2 k=>k.go h2 hl h3
 | _=>exact ⟨s',loc',h1,h2,h3⟩
theorem T.block {id:Nat} {c:Code} (h:T F P c (z8 id Q) s):T F P (.block id c) Q s:=fun L loc a w hr=>by
 refine wpIn_block (wpIn_mono (h L loc a w hr) fun e a' w' ⟨s',loc',h1,h2,h3⟩=>?_)
 cases e with
 | exit id' =>
  simp only [Exit.inBlock,z8] at h1 ⊢
  split
  ·rename_i hid;rw [if_pos hid] at h1;exact ⟨s',loc',h1,h2,h3⟩
  ·rename_i hid;rw [if_neg hid] at h1;exact ⟨s',loc',h1,h2,h3⟩
 | _=>exact ⟨s',loc',h1,h2,h3⟩
theorem T.skip (h:Q .normal s):T F P .skip Q s:=fun _ loc _ _ hr=>wpIn_skip (.of h hr (Ext.refl _ _))
theorem T.exit {id:Nat} (h:Q (.exit id) s):T F P (.exit id) Q s:=fun _ loc _ _ hr=>wpIn_exit (.of h hr (Ext.refl _ _))
theorem T.ret (h:Q .ret s):T F P .ret Q s:=fun _ loc _ _ hr=>wpIn_ret (.of h hr (Ext.refl _ _))
theorem AR.bool {N:Nat} {D:Nat→Prop} {loc:Nat→Option Value} {w:World} {b:Bool} {v:Value} (h:AR N D loc w (.p (.val (.bool b))) v):v = .bool b:=by
 cases h with|p _ _ h=>cases h;rfl
theorem AR.val {N:Nat} {D:Nat→Prop} {loc:Nat→Option Value} {w:World} {u v:Value} (h:AR N D loc w (.p (.val u)) v):v=u:=by
 cases h with|p _ _ h=>cases h;rfl
theorem T.cond {c:Operand} {x y:Code} {b:Bool} (hc:s.ev c = .p (.val (.bool b))) (h:b=true→T F P x Q s) (h' : b=false→T F P y Q s):T F P (.cond c x y) Q s:=fun L loc a w hr=>by
 have:=hr.ev c (fun _ _=>trivial)
 rw [hc] at this
 exact wpIn_cond_split this.bool (fun e=>h e L loc a w hr) (fun e=>h' e L loc a w hr)
theorem T.mono {c:Code} {Q' : Exit→ASt→Prop} (h:T F P c Q s) (hq : ∀ e s,Q e s→Q' e s):T F P c Q' s:=fun L loc a w hr =>
 wpIn_mono (h L loc a w hr) fun _ _ _ ⟨s',loc',h1,h2,h3⟩=>⟨s',loc',hq _ _ h1,h2,h3⟩
def zi (s s' : ASt):Prop := ∀ L loc a w,Rel All L s loc a w → ∃ loc',Rel All L s' loc' a w∧Ext loc w loc' w
theorem zi.refl (s:ASt):zi s s:=fun _ loc _ _ h=>⟨loc,h,Ext.refl _ _⟩
theorem zi.trans {s1 s2 s3:ASt} (h:zi s1 s2) (k:zi s2 s3):zi s1 s3:=fun L loc a w hr =>
 let ⟨l2,h1,h2⟩:=h L loc a w hr;let ⟨l3,h3,h4⟩:=k L l2 a w h1;⟨l3,h3,h2.trans h4⟩
theorem T.weak {c:Code} {s' : ASt} (hw:zi s s') (h:T F P c Q s'):T F P c Q s:=fun L loc a w hr =>
 let ⟨loc',h1,h2⟩:=hw L loc a w hr;wpIn_mono (h L loc' a w h1) fun _ _ _ k=>k.ext h2
theorem TL.weak {ops:Array Oper} {l:List Oper} {s' : ASt} (hw:zi s s') (h:TL P ops Q l s'):TL P ops Q l s:=fun L loc a w hr =>
 let ⟨loc',h1,h2⟩:=hw L loc a w hr;z0k (fun _ _ _ k=>k.ext h2) l a w (h L loc' a w h1)
theorem T.loop {ι:Type} {c:Code} (S : ι→ASt) (μ : ι→Nat) (i₀ : ι) (h0:zi s (S i₀)) (hr : ∀ i,T F P c (ze (fun s' => ∃ j,zi s' (S j) ∧ μ j<μ i) Q) (S i)):T F P (.loop c) Q s:=fun L loc a w hrel=>by
 intro b k cs hro hb hro2
 have key : ∀ n i,μ i=n → ∀ L1 l1 a1 w1,Rel All L1 (S i) l1 a1 w1→LX L w L1 w1→Ext loc w l1 w1 →
   ∃ e a' w',z0r L loc w Q e a' w' ∧ ArrivesIn (Machine.fenced P F) P (lone (b.atR a1 (.code c :: .inLoop c :: k)) cs w1) b k cs e a' w':=by
  intro n
  induction n using Nat.strongRecOn with
  | _ n ih =>
   intro i hn L1 l1 a1 w1 h1 hlx hx
   obtain ⟨e,a2,w2,⟨s2,l2,hq,⟨L2,hr2,hl2⟩,hx2⟩,harr⟩:=hr i L1 l1 a1 w1 h1 b (.inLoop c :: k) cs hro hb hro2
   have hl02:=hlx.trans hl2 hx2 h1.hp.notL hx.kp.size
   cases e with
   | normal =>
    obtain ⟨j,hw,hlt⟩:=hq
    obtain ⟨l3,hr3,hx3⟩:=hw L2 l2 a2 w2 hr2
    obtain ⟨e3,a3,w3,hq3,harr3⟩:=ih (μ j) (hn ▸ hlt) j rfl L2 l3 a2 w2 hr3 hl02 ((hx.trans hx2).trans hx3)
    exact ⟨e3,a3,w3,hq3,.of_steps (StepsIn.trans harr (.one (fenced_calm hb hro2 rfl) stepR_inLoop)) harr3⟩
   | exit id=>exact ⟨_,a2,w2,⟨s2,l2,hq,⟨L2,hr2,hl02⟩,hx.trans hx2⟩,.pass (x := .inLoop c) rfl (fun _ _ => .inl (by simp)) harr⟩
   | goto l=>exact ⟨_,a2,w2,⟨s2,l2,hq,⟨L2,hr2,hl02⟩,hx.trans hx2⟩,.pass (x := .inLoop c) rfl (fun _ _ => .inl (by simp)) harr⟩
   | ret=>exact ⟨_,a2,w2,⟨s2,l2,hq,⟨L2,hr2,hl02⟩,hx.trans hx2⟩,.pass (x := .inLoop c) rfl (fun _ _ => .inl (by simp)) harr⟩
   | panic ch=>exact ⟨_,a2,w2,⟨s2,l2,hq,⟨L2,hr2,hl02⟩,hx.trans hx2⟩,.pass (x := .inLoop c) rfl (fun _ _ => .inl (by simp)) harr⟩
   | outgrown=>exact ⟨_,a2,w2,⟨s2,l2,hq,⟨L2,hr2,hl02⟩,hx.trans hx2⟩,.pass (x := .inLoop c) rfl (fun _ _ => .inl (by simp)) harr⟩
 obtain ⟨l0,hr0,hx0⟩:=h0 L loc a w hrel
 obtain ⟨e,a',w',hq,harr⟩:=key _ i₀ rfl L l0 a w hr0 (.refl _ _ _) hx0
 exact ⟨e,a',w',hq,.of_steps (.one (fenced_calm hb hro2 rfl) stepR_loop) harr⟩
end
abbrev looks (ops:Array Oper) (o:Oper):Nat→Prop:=fun t=>t ∈ o.looksAt ops
theorem zJ {ops:Array Oper} {o:Oper} {x:Operand} (h:x ∈ o.op.operands.toList) : ∀ t,x = .tmp t→looks ops o t:=fun t e=>by
 subst e
 exact List.mem_append.2 (.inl (List.mem_filterMap.2 ⟨_,h,rfl⟩))
def qB (P:Program) (ops:Array Oper) (o:Oper) (s:ASt) (av:AV):Prop :=
 ∀ L loc a w,Rel (looks ops o) L s loc a w →
  (∃ v w',(execOp a.eval o).run P w = .ok (.value v) w' ∧ Blw w.heap.size w w' ∧ AR s.N (Dm L loc) loc w' av v) ∨
  (∃ f args,(execOp a.eval o).run P w = .ok (.enter f args) w∧Calls P f args w fun e w' => ∃ v,e = .returned v∧Blw w.heap.size w w' ∧ AR s.N (Dm L loc) loc w' av v)
theorem qB.pure {P:Program} {ops:Array Oper} {o:Oper} {s:ASt} {av:AV} (h : ∀ L loc a w,Rel (looks ops o) L s loc a w → ∃ v,(execOp a.eval o).run P w = .ok (.value v) w∧AR s.N (Dm L loc) loc w av v):qB P ops o s av:=fun L loc a w hr =>
 let ⟨v,h1,h2⟩:=h L loc a w hr;.inl ⟨v,w,h1,Blw.refl _ _,h2⟩
section
variable {P:Program} {ops:Array Oper} {o:Oper} {s:ASt}
theorem op_move (x:Operand) (h:o.op = .move x∨o.op = .assign x):qB P ops o s (s.ev x) := .pure fun L loc a w hr=>by
 refine ⟨a.eval x,?_,hr.ev x (zJ ?_)⟩
 ·rcases h with h|h <;> simp [execOp,h]
 ·rcases h with h|h <;> simp [h,Op.operands]
theorem op_pick (c x y:Operand) (b:Bool) (h:o.op = .pick c x y) (hc:s.ev c = .p (.val (.bool b))):qB P ops o s (if b then s.ev x else s.ev y) := .pure fun L loc a w hr=>by
 have h1:=hr.ev c (zJ (by simp [h,Op.operands]))
 rw [hc] at h1
 cases b with
 | true=>exact ⟨a.eval x,by simp [execOp,h,h1.bool,asBool],hr.ev x (zJ (by simp [h,Op.operands]))⟩
 | false=>exact ⟨a.eval y,by simp [execOp,h,h1.bool,asBool],hr.ev y (zJ (by simp [h,Op.operands]))⟩
def qy (P:Program) (t:TypeId):Option Nat:=(P.info? t).map (·.size)
def qf (P:Program) (t:TypeId):Option Bool:=(P.underlying t).map fun d=>match d with | .struct _ | .array _ _=>true|_=>false
def z1O (P:Program) (t:TypeId) (cs:List AV) (off:Nat):Option AV :=
 match qf P t,qy P t with
 | some true,some n=>if off+n≤cs.length then some (.agg ((cs.drop off).take n)) else none
 | some false,some _=>cs[off]?
 | _,_=>none
theorem z0S {N:Nat} {D:Nat→Prop} {loc:Nat→Option Value} {w:World} {t:TypeId} {cs:List AV} {b o off:Nat} {av:AV} (g:Nat→Value)
  (hc : ∀ j x,cs[j]? = some x→w.cell? ⟨b,o+j,none⟩=some (g j)∧AR N D loc w x (g j)∧(g j).oneCell' = true) (h:z1O P t cs off=some av) :
  ∃ v,(Instr.loadAt t (.pointer (some ⟨b,o+off,none⟩))).run P w = .ok v w∧AR N D loc w av v:=by
 unfold z1O at h
 cases h1:qf P t with
 | none=>rw [h1] at h;cases h
 | some r =>
  cases h2:qy P t with
  | none=>rw [h1,h2] at h;cases r <;> cases h
  | some n =>
   rw [h1,h2] at h
   unfold qf at h1
   obtain ⟨d,hu,hd⟩:=Option.map_eq_some_iff.1 h1
   cases r with
   | true =>
    simp only at h
    split at h
    ·rename_i hl
     simp only [Option.some.injEq] at h
     subst h
     have hd' : d.isRow=true:=by cases d <;> simp_all
     have hgl:((List.range n).map fun j=>g (off+j)).length=n:=by simp
     refine ⟨_,run_loadAt_mid w b (o+off) t ((List.range n).map fun j=>g (off+j)) d (fun j v hv=>?_) hu hd' (by rw [hgl];exact h2),.agg _ _ (by simp;omega) (fun j x hx=>?_) (fun j hj=>?_)⟩
     ·simp only [List.getElem?_map,Option.map_eq_some_iff] at hv
      obtain ⟨j',hj',rfl⟩:=hv
      obtain ⟨hlt,rfl⟩:=List.getElem?_eq_some_iff.1 hj'
      simp only [List.length_range] at hlt
      simp only [List.getElem_range]
      have:=(hc (off+j) cs[off+j] (List.getElem?_eq_getElem (by omega))).1
      rw [← this,Nat.add_assoc]
     ·obtain ⟨hlt,hx2⟩:=List.getElem?_eq_some_iff.1 hx
      simp only [List.length_take,List.length_drop] at hlt
      have hx' : cs[off+j]? = some x:=by rw [← hx,List.getElem?_take,if_pos (by omega),List.getElem?_drop]
      have e:(List.map (fun j=>g (off+j)) (List.range n)).toArray.getD j undef=g (off+j):=by
       rw [Array.getD_eq_getD_getElem?]
       simp [List.getElem?_range (show j<n by omega)]
      rw [e]
      exact (hc _ x hx').2.1
     ·have hj' : j<n:=by simpa using hj
      have e:(List.map (fun j=>g (off+j)) (List.range n)).toArray.getD j undef=g (off+j):=by
       rw [Array.getD_eq_getD_getElem?]
       simp [List.getElem?_range hj']
      rw [e]
      exact (hc (off+j) cs[off+j] (List.getElem?_eq_getElem (by omega))).2.2
    ·cases h
   | false =>
    simp only at h
    obtain ⟨h3,h4,_⟩:=hc off av h
    refine ⟨g off,?_,h4⟩
    have hagg:(isAgg t).run P w = .ok false w:=by
     unfold isAgg
     rw [Sem.run_bind,run_underlying hu w]
     cases d <;> simp_all
    simp [Instr.loadAt,Instr.sureAddr,loadVar,Sem.run_bind,hagg,h3]
def z4n (P:Program) (s:ASt) (t:TypeId):AV→Option AV
 | .elt row off=>z1O P t (row.map .p) off
 | .ptr tag off=>match s.hp.lookup tag with
  | some (.boxP _ _ cs)=>z1O P t cs off
  | _=>none
 | .rptr tag n k off=>match s.hp.lookup tag with
  | some (.row _ m rows)=>if m=n then match rows[k]? with
   | some r=>z1O P t (r.map .p) off
   | none=>none
   else none
  | some (.arow _ cs)=>if n=1∧off=0∧k<cs.length then z1O P t cs k else none
  | some (.afix _ m len cs)=>if n=m∧k<len then z1O P t cs (k*m+off) else none
  | _=>none
 | _=>none
theorem op_load (t:TypeId) (x:Operand) (av:AV) (h:o.op = .load t x) (hl:z4n P s t (s.ev x)=some av):qB P ops o s av := .pure fun L loc a w hr=>by
 have h1:=hr.ev x (zJ (by simp [h,Op.operands]))
 have he : ∀ v,(Instr.loadAt t (a.eval x)).run P w = .ok v w→(execOp a.eval o).run P w = .ok (.value v) w:=fun v hv=>by simp [execOp,h,hv]
 generalize a.eval x=u at *
 generalize s.ev x=y at *
 cases h1 with
 | elt row off b oo f hb hnD hc hp =>
  obtain ⟨v,h2,h3⟩:=z0S (P:=P) (N:=s.N) (D:=Dm L loc) (loc:=loc) (cs:=row.map .p) f (fun j y hy=>by
   simp only [List.getElem?_map,Option.map_eq_some_iff] at hy
   obtain ⟨z,hz,rfl⟩:=hy
   exact ⟨hc j z hz,.p _ _ (hp j z hz),(hp j z hz).one⟩) hl
  exact ⟨v,he v h2,h3⟩
 | ptr tag off v ht h1 hv =>
  simp only [z4n] at hl
  cases hlk:s.hp.lookup tag with
  | none=>rw [hlk] at hl;cases hl
  | some ob =>
   rw [hlk] at hl
   obtain ⟨_,u',hu',hor⟩:=hr.hp.at' tag ob hlk
   cases ob with
   | map _ _ _ _ _=>cases hl
   | raw _ _=>cases hl
   | lrec _ _ _=>cases hl
   | amap _ _ _ _ _=>cases hl
   | arow _ _=>cases hl
   | afix _ _ _ _=>cases hl
   | row e n rows=>cases hl
   | boxP pin ty cs =>
    obtain ⟨b,arr,rfl,hh,hsz,hcs,h1c,_⟩:=hor
    obtain rfl:=hv b hu'
    obtain ⟨v,h2,h3⟩:=z0S (P:=P) (N:=s.N) (D:=Dm L loc) (loc:=loc) (b:=b) (o := 0) (cs:=cs) (fun j=>arr.getD j undef) (fun j y hy=>by
     obtain ⟨hlt,_⟩:=List.getElem?_eq_some_iff.1 hy
     refine ⟨?_,hcs j y hy,h1c j (by omega)⟩
     rw [z05 hh,Array.getD_eq_getD_getElem?,Nat.zero_add,Array.getElem?_eq_getElem (by omega)];rfl) hl
    rw [Nat.zero_add] at h2
    exact ⟨v,he v h2,h3⟩
 | rptr tag n k off v ht h1 hv =>
  simp only [z4n] at hl
  cases hlk:s.hp.lookup tag with
  | none=>rw [hlk] at hl;cases hl
  | some ob =>
   rw [hlk] at hl
   obtain ⟨_,u',hu',hor⟩:=hr.hp.at' tag ob hlk
   cases ob with
   | map _ _ _ _ _=>cases hl
   | raw _ _=>cases hl
   | lrec _ _ _=>cases hl
   | amap _ _ _ _ _=>cases hl
   | arow e cs =>
    simp only at hl
    split at hl
    ·rename_i hc
     obtain ⟨rfl,rfl,hk⟩:=hc
     obtain ⟨flat,hown,hfl,h1c⟩:=hor
     rcases hown.2 with ⟨_,h0⟩|⟨g,cap,cur,rfl,_,_,_⟩
     ·omega
     ·obtain rfl:=hv g _ _ hu'
      obtain ⟨v,h2,h3⟩:=z0S (P:=P) (N:=s.N) (D:=Dm L loc) (loc:=loc) (b:=g) (o := 0) (cs:=cs) (fun j=>flat.getD j undef) (fun j y hy=>by
       obtain ⟨v,h5,h6⟩:=hfl j y hy
       have h7:=z2u hown h5
       rw [List.getD_eq_getElem?_getD,h5,Nat.zero_add]
       exact ⟨h7,h6,h1c v (List.mem_of_getElem? h5)⟩) hl
      rw [Nat.zero_add] at h2
      exact ⟨v,he v (by simpa using h2),h3⟩
    ·cases hl
   | afix e m len cs =>
    simp only at hl
    split at hl
    ·rename_i hc
     obtain ⟨rfl,hk⟩:=hc
     obtain ⟨flat,hown,hfl,h1c⟩:=hor
     rcases hown.2 with ⟨_,h0⟩|⟨g,cap,cur,rfl,_,_,_⟩
     ·omega
     ·obtain rfl:=hv g _ _ hu'
      obtain ⟨v,h2,h3⟩:=z0S (P:=P) (N:=s.N) (D:=Dm L loc) (loc:=loc) (b:=g) (o := 0) (cs:=cs) (fun j=>flat.getD j undef) (fun j y hy=>by
       obtain ⟨v,h5,h6⟩:=hfl j y hy
       have h7:=z2u hown h5
       rw [List.getD_eq_getElem?_getD,h5,Nat.zero_add]
       exact ⟨h7,h6,h1c v (List.mem_of_getElem? h5)⟩) hl
      rw [Nat.zero_add] at h2
      exact ⟨v,he v h2,h3⟩
    ·cases hl
   | boxP pin ty cs=>cases hl
   | row e m rows =>
    simp only at hl
    split at hl
    ·rename_i hmn
     subst hmn
     split at hl
     ·rename_i r hk
      obtain ⟨flat,hown,hn,hfl,h1c⟩:=hor
      have hlen:=(List.getElem?_eq_some_iff.1 hk).1
      rcases hown.2 with ⟨_,h0⟩|⟨g,cap,cur,rfl,_,_,_⟩
      ·omega
      ·obtain rfl:=hv g _ _ hu'
       obtain ⟨v,h2,h3⟩:=z0S (P:=P) (N:=s.N) (D:=Dm L loc) (loc:=loc) (b:=g) (o:=k*m) (cs:=r.map .p) (fun j=>flat.getD (k*m+j) undef) (fun j y hy=>by
        simp only [List.getElem?_map,Option.map_eq_some_iff] at hy
        obtain ⟨z,hz,rfl⟩:=hy
        obtain ⟨v,h5,h6⟩:=hfl k r j z hk hz
        rw [List.getD_eq_getElem?_getD,h5]
        exact ⟨z2u hown h5,.p _ _ h6,h6.one⟩) hl
       exact ⟨v,he v h2,h3⟩
     ·cases hl
    ·cases hl
 | _=>cases hl
def zK (P:Program) (t:TypeId) (f:Nat):Option Nat:=match P.underlying t with
 | some (.struct fs)=>match fs[f]? with
  | some fd=>match qy P fd.type with
   | some (_+1)=>some fd.offset
   | _=>none
  | none=>none
 | _=>none
def z3F (P:Program) (s:ASt) (t:TypeId) (f:Nat):AV→Option AV
 | .elt row off=>(zK P t f).map fun k => .elt row (off+k)
 | .ptr tag off=>match s.hp.lookup tag with
  | some (.boxP _ _ _)=>(zK P t f).map fun k => .ptr tag (off+k)
  | _=>none
 | .rptr tag n k off=>match s.hp.lookup tag with
  | some (.row _ _ (_ :: _))=>(zK P t f).map fun j => .rptr tag n k (off+j)
  | some (.afix _ _ len _)=>if 0<len then (zK P t f).map fun j => .rptr tag n k (off+j) else none
  | _=>none
 | _=>none
theorem z1I {t:TypeId} {f k:Nat} (h:zK P t f=some k) (b o:Nat) (w:World):(Instr.fieldAt t (.pointer (some ⟨b,o,none⟩)) f).run P w = .ok (.pointer (some ⟨b,o+k,none⟩)) w:=by
 unfold zK at h
 split at h
 ·rename_i fs hu
  split at h
  ·rename_i fd hf
   split at h
   ·rename_i n hs
    cases h
    obtain ⟨i,hi,hn⟩:=Option.map_eq_some_iff.1 hs
    simp [Instr.fieldAt,run_underlying hu,hf,Instr.sureAddr,fieldPlace,sizeOf,typeInfo,hi,hn,Addr.add_mid]
   ·cases h
  ·cases h
 ·cases h
theorem op_field (t:TypeId) (x:Operand) (f:Nat) (av:AV) (h:o.op = .fieldAddr t x f) (hl:z3F P s t f (s.ev x)=some av):qB P ops o s av := .pure fun L loc a w hr=>by
 have h1:=hr.ev x (zJ (by simp [h,Op.operands]))
 have he : ∀ v,(Instr.fieldAt t (a.eval x) f).run P w = .ok v w→(execOp a.eval o).run P w = .ok (.value v) w:=fun v hv=>by simp [execOp,h,hv]
 generalize a.eval x=u at *
 generalize s.ev x=y at *
 cases h1 with
 | elt row off b oo fn hb hnD hc hp =>
  obtain ⟨k,hk,rfl⟩:=Option.map_eq_some_iff.1 hl
  exact ⟨_,he _ (z1I hk _ _ w),by rw [Nat.add_assoc];exact .elt row (off+k) b oo fn hb hnD hc hp⟩
 | ptr tag off v ht h1 hv =>
  simp only [z3F] at hl
  cases hlk:s.hp.lookup tag with
  | none=>rw [hlk] at hl;cases hl
  | some ob =>
   rw [hlk] at hl
   obtain ⟨_,u',hu',hor⟩:=hr.hp.at' tag ob hlk
   cases ob with
   | map _ _ _ _ _=>cases hl
   | raw _ _=>cases hl
   | lrec _ _ _=>cases hl
   | amap _ _ _ _ _=>cases hl
   | arow _ _=>cases hl
   | afix _ _ _ _=>cases hl
   | row e n rows=>cases hl
   | boxP pin ty cs =>
    obtain ⟨b,arr,rfl,_⟩:=hor
    obtain rfl:=hv b hu'
    obtain ⟨k,hk,rfl⟩:=Option.map_eq_some_iff.1 hl
    exact ⟨_,he _ (z1I hk _ _ w),.ptr tag (off+k) _ ht rfl fun b' hb'=>by rw [hu'] at hb';cases hb';rfl⟩
 | rptr tag n k off v ht h1 hv =>
  simp only [z3F] at hl
  cases hlk:s.hp.lookup tag with
  | none=>rw [hlk] at hl;cases hl
  | some ob =>
   rw [hlk] at hl
   obtain ⟨_,u',hu',hor⟩:=hr.hp.at' tag ob hlk
   cases ob with
   | map _ _ _ _ _=>cases hl
   | raw _ _=>cases hl
   | lrec _ _ _=>cases hl
   | amap _ _ _ _ _=>cases hl
   | arow _ _=>cases hl
   | afix e m len cs =>
    simp only at hl
    split at hl
    ·rename_i hc
     obtain ⟨flat,hown,_⟩:=hor
     rcases hown.2 with ⟨_,h0⟩|⟨g,cap,cur,rfl,_⟩
     ·omega
     ·obtain rfl:=hv g _ _ hu'
      obtain ⟨j,hj,rfl⟩:=Option.map_eq_some_iff.1 hl
      exact ⟨_,he _ (z1I hj _ _ w),.rptr tag n k (off+j) _ ht rfl fun b' l c hb'=>by rw [hu'] at hb';cases hb';rw [Nat.add_assoc]⟩
    ·cases hl
   | boxP pin ty cs=>cases hl
   | row e m rows =>
    cases rows with
    | nil=>cases hl
    | cons r0 rows =>
     obtain ⟨flat,hown,_⟩:=hor
     rcases hown.2 with ⟨_,h0⟩|⟨g,cap,cur,rfl,_⟩
     ·cases h0
     ·obtain rfl:=hv g _ _ hu'
      obtain ⟨j,hj,rfl⟩:=Option.map_eq_some_iff.1 hl
      exact ⟨_,he _ (z1I hj _ _ w),.rptr tag n k (off+j) _ ht rfl fun b' l c hb'=>by rw [hu'] at hb';cases hb';rw [Nat.add_assoc]⟩
 | _=>cases hl
def qP (P:Program) (t:TypeId):Option Nat:=match P.underlying t with
 | some (.slice e)=>qy P e
 | _=>none
def z6T (P:Program) (t:TypeId):Option (Nat × Nat):=match P.underlying t with
 | some (.array n e)=>(qy P e).map fun k=>(n,k)
 | _=>none
def z0K (P:Program) (s:ASt) (t:TypeId) (i:Int):AV→Option AV
 | .p (.seq n rows)=>if qP P t=some n ∧ 0≤i then match rows[i.toNat]? with
  | some r=>some (.elt r 0)
  | none=>none
  else none
 | .p (.val (.pointer (some ⟨g,0,none⟩)))=>match s.hp.lookup (1000000+g) with
  | some (.boxP (some p) _ _)=>match z6T P t with
   | some (n,k)=>if p=g ∧ 0≤i∧i.toNat<n then some (.ptr (1000000+g) (i.toNat*k)) else none
   | none=>none
  | _=>none
 | .own tag=>match s.hp.lookup tag with
  | some (.row _ n rows)=>if qP P t=some n ∧ 0≤i∧i.toNat<rows.length then some (.rptr tag n i.toNat 0) else none
  | some (.arow _ cs)=>if qP P t=some 1 ∧ 0≤i∧i.toNat<cs.length then some (.rptr tag 1 i.toNat 0) else none
  | some (.afix _ n len _)=>if qP P t=some n ∧ 0≤i∧i.toNat<len then some (.rptr tag n i.toNat 0) else none
  | _=>none
 | .suf tag n m=>match s.hp.lookup tag with
  | some (.row _ n' rows)=>if n' = n∧qP P t=some n ∧ 0≤i∧m+i.toNat<rows.length then some (.rptr tag n (m+i.toNat) 0) else none
  | _=>none
 | .elt row off=>match z6T P t with
  | some (n,k)=>if 0≤i∧i.toNat<n then some (.elt row (off+i.toNat*k)) else none
  | none=>none
 | .ptr tag off=>match s.hp.lookup tag with
  | some (.boxP _ _ _)=>match z6T P t with
   | some (n,k)=>if 0≤i∧i.toNat<n then some (.ptr tag (off+i.toNat*k)) else none
   | none=>none
  | _=>none
 | _=>none
theorem z4H {t:TypeId} {n m:Nat} (h:z6T P t=some (n,m)) {k:IntKind} {i:Int} (h0 : 0≤i) (hl:i.toNat<n) (b o:Nat) (w:World) :
  (Instr.indexAt t (.pointer (some ⟨b,o,none⟩)) (.int k i)).run P w = .ok (.pointer (some ⟨b,o+i.toNat*m,none⟩)) w:=by
 unfold z6T at h
 split at h
 ·rename_i n' e hu
  obtain ⟨q,hq,hn⟩:=Option.map_eq_some_iff.1 h
  cases hn
  obtain ⟨ti,hi,hn⟩:=Option.map_eq_some_iff.1 hq
  have hlt:i<(n:Int):=by omega
  simp [Instr.indexAt,asIntOf,run_underlying hu,Instr.sureAddr,h0,hlt,sizeOf,typeInfo,hi,hn,Addr.add_mid]
 ·cases h
theorem run_indexAt {t:TypeId} {n:Nat} (h:qP P t=some n) {k:IntKind} {i:Int} (h0 : 0≤i) {l cap b off:Nat} (hl:i.toNat<l) (w:World) :
  (Instr.indexAt t (.slice (some ⟨b,off,none⟩) l cap) (.int k i)).run P w = .ok (.pointer (some ⟨b,off+i.toNat*n,none⟩)) w:=by
 unfold qP at h
 split at h
 ·rename_i e hu
  obtain ⟨ti,hi,hn⟩:=Option.map_eq_some_iff.1 h
  have hlt:i<(l:Int):=by omega
  simp [Instr.indexAt,asIntOf,run_underlying hu,h0,hlt,sizeOf,typeInfo,hi,hn,Addr.add_mid]
 ·cases h
theorem op_index (t:TypeId) (x i:Operand) (k:IntKind) (iv:Int) (av:AV) (h:o.op = .indexAddr t x i) (hi:s.ev i = .p (.val (.int k iv))) (hl:z0K P s t iv (s.ev x)=some av):qB P ops o s av := .pure fun L loc a w hr=>by
 have h1:=hr.ev x (zJ (by simp [h,Op.operands]))
 have h2:=hr.ev i (zJ (by simp [h,Op.operands]))
 rw [hi] at h2
 have he : ∀ v,(Instr.indexAt t (a.eval x) (.int k iv)).run P w = .ok v w→(execOp a.eval o).run P w = .ok (.value v) w:=fun v hv=>by simp [execOp,h,h2.val,hv]
 generalize a.eval x=u at *
 generalize s.ev x=y at *
 cases h1 with
 | p y v hp =>
  cases hp with
  | val v _ =>
   unfold z0K at hl
   split at hl <;> first|(rename_i hq;cases hq;done)|skip
   all_goals first|(cases hl;done)|skip
   rename_i g hq
   injection hq with hq
   injection hq with hq
   subst hq
   split at hl
   ·rename_i p ty cs hlk
    split at hl
    ·rename_i n m ha
     split at hl
     ·rename_i hcond
      obtain ⟨rfl,c1,c2⟩:=hcond
      cases hl
      obtain ⟨htN,u',hu',hor⟩:=hr.hp.at' _ _ hlk
      obtain ⟨b',arr,rfl,_,_,_,_,hpin⟩:=hor
      obtain rfl:=hpin p rfl
      refine ⟨_,he _ (z4H ha c1 c2 _ _ w),.ptr _ _ _ htN rfl fun b2 hb2=>?_⟩
      rw [hu'] at hb2;cases hb2;rw [Nat.zero_add]
     ·cases hl
    ·cases hl
   ·cases hl
  | nil n a cap h0 =>
   simp only [z0K] at hl
   split at hl
   ·simp at hl
   ·cases hl
  | seq n b off cap rows f hb hnD hcap hmax hn hc hr' =>
   simp only [z0K] at hl
   split at hl
   ·rename_i hcond
    split at hl
    ·rename_i r hrow
     cases hl
     have hlt:=(List.getElem?_eq_some_iff.1 hrow).1
     refine ⟨_,he _ (run_indexAt hcond.1 hcond.2 hlt w),?_⟩
     have:=AR.elt (N:=s.N) (D:=Dm L loc) (loc:=loc) (w:=w) r 0 b (off+iv.toNat*n) (fun j=>f iv.toNat j) hb hnD (fun j x hx=>hc _ r j x hrow hx) (fun j x hx=>hr' _ r j x hrow hx)
     exact this
    ·cases hl
   ·cases hl
 | own tag v ht h1 hv =>
  simp only [z0K] at hl
  cases hlk:s.hp.lookup tag with
  | none=>rw [hlk] at hl;cases hl
  | some ob =>
   rw [hlk] at hl
   obtain ⟨_,u',hu',hor⟩:=hr.hp.at' tag ob hlk
   cases ob with
   | map _ _ _ _ _=>cases hl
   | raw _ _=>cases hl
   | lrec _ _ _=>cases hl
   | amap _ _ _ _ _=>cases hl
   | arow e cs =>
    simp only at hl
    split at hl
    ·rename_i hcond
     cases hl
     obtain ⟨flat,hown,_⟩:=hor
     obtain rfl:=hv _ hu'
     rcases hown.2 with ⟨_,h0⟩|⟨g,cap,cur,rfl,_⟩
     ·omega
     ·refine ⟨_,he _ (run_indexAt hcond.1 hcond.2.1 hcond.2.2 w),.rptr tag 1 _ 0 _ ht rfl fun b' l c hb'=>?_⟩
      rw [hu'] at hb';cases hb';simp
    ·cases hl
   | afix e m9 len cs =>
    simp only at hl
    split at hl
    ·rename_i hcond
     cases hl
     obtain ⟨flat,hown,_⟩:=hor
     obtain rfl:=hv _ hu'
     rcases hown.2 with ⟨_,h0⟩|⟨g,cap,cur,rfl,_⟩
     ·omega
     ·refine ⟨_,he _ (run_indexAt hcond.1 hcond.2.1 hcond.2.2 w),.rptr tag m9 _ 0 _ ht rfl fun b' l c hb'=>?_⟩
      rw [hu'] at hb';cases hb';simp
    ·cases hl
   | boxP pin ty cs=>cases hl
   | row e n rows =>
    simp only at hl
    split at hl
    ·rename_i hcond
     cases hl
     obtain ⟨flat,hown,_⟩:=hor
     obtain rfl:=hv _ hu'
     rcases hown.2 with ⟨_,h0⟩|⟨g,cap,cur,rfl,_⟩
     ·omega
     ·refine ⟨_,he _ (run_indexAt hcond.1 hcond.2.1 hcond.2.2 w),.rptr tag n _ 0 _ ht rfl fun b' l c hb'=>?_⟩
      rw [hu'] at hb';cases hb';simp
    ·cases hl
 | suf tag n m v ht h1 hv =>
  simp only [z0K] at hl
  cases hlk:s.hp.lookup tag with
  | none=>rw [hlk] at hl;cases hl
  | some ob =>
   rw [hlk] at hl
   obtain ⟨_,u',hu',hor⟩:=hr.hp.at' tag ob hlk
   cases ob with
   | map _ _ _ _ _=>cases hl
   | raw _ _=>cases hl
   | lrec _ _ _=>cases hl
   | amap _ _ _ _ _=>cases hl
   | arow _ _=>cases hl
   | afix _ _ _ _=>cases hl
   | boxP pin ty cs=>cases hl
   | row e n' rows =>
    simp only at hl
    split at hl
    ·rename_i hcond
     obtain ⟨c0,c1,c2,c3⟩:=hcond
     subst c0
     cases hl
     obtain ⟨flat,hown,_⟩:=hor
     rcases hown.2 with ⟨_,h0⟩|⟨g,cap,cur,rfl,_,_,hcp,_⟩
     ·omega
     ·obtain ⟨oo,rfl,hoo⟩:=hv _ _ _ hu'
      obtain rfl:=hoo (by omega)
      refine ⟨_,he _ (run_indexAt c1 c2 (by omega) w),.rptr tag n' _ 0 _ ht rfl fun b' l c hb'=>?_⟩
      rw [hu'] at hb';cases hb'
      rw [Nat.add_mul,Nat.add_zero]
    ·cases hl
 | elt row off b oo fn hb hnD hc hp =>
  simp only [z0K] at hl
  split at hl
  ·rename_i n m ha
   split at hl
   ·rename_i hcond
    cases hl
    exact ⟨_,he _ (z4H ha hcond.1 hcond.2 _ _ w),by rw [Nat.add_assoc];exact .elt row (off+iv.toNat*m) b oo fn hb hnD hc hp⟩
   ·cases hl
  ·cases hl
 | ptr tag off v ht h1 hv =>
  simp only [z0K] at hl
  cases hlk:s.hp.lookup tag with
  | none=>rw [hlk] at hl;cases hl
  | some ob =>
   rw [hlk] at hl
   obtain ⟨_,u',hu',hor⟩:=hr.hp.at' tag ob hlk
   cases ob with
   | map _ _ _ _ _=>cases hl
   | raw _ _=>cases hl
   | lrec _ _ _=>cases hl
   | amap _ _ _ _ _=>cases hl
   | arow _ _=>cases hl
   | afix _ _ _ _=>cases hl
   | row e n rows=>cases hl
   | boxP pin ty cs =>
    obtain ⟨b,arr,rfl,_⟩:=hor
    obtain rfl:=hv b hu'
    simp only at hl
    split at hl
    ·rename_i n m ha
     split at hl
     ·rename_i hcond
      cases hl
      exact ⟨_,he _ (z4H ha hcond.1 hcond.2 _ _ w),.ptr tag (off+iv.toNat*m) _ ht rfl fun b' hb'=>by rw [hu'] at hb';cases hb';rfl⟩
     ·cases hl
    ·cases hl
 | _=>cases hl
end
end Go.Proofs.YtbkkginjfnjffaaGreatDoor
