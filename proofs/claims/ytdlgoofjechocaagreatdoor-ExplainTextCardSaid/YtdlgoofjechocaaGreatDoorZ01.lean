/- Texts Lib, Inv, Qm, Own, Rel, Rp, Dr, Aa, Ab, Ac, Ad, Ae. -/
import Derived.Test.YtdlgoofjechocaaGreatDoorRows
import Derived.WalkKit
import Derived.WalkSpells
import Derived.WalkLawsBesides
import Derived.Lib.Hide
import Derived.Lib.QuietBelow
import Derived.BigQuiet
import Derived.StillTail
import Derived.Deep.Draws
import Derived.Maps.Own
import Derived.Maps.OwnSet
import Derived.Maps.Views
import Derived.Maps.Range
import Derived.TacticsIn
import Derived.OrdersIn
import Derived.LoopIn
import Derived.RangeFuncOwn
import Derived.Deep.MidRow
import Derived.Laws.BytesArg
set_option maxHeartbeats 32000000
set_option maxRecDepth 100000
set_option linter.unusedSimpArgs false
set_option linter.unusedVariables false
namespace Go.Proofs.YtdlgoofjechocaaGreatDoor
open Go.RowKit Go.Sort
def gw (w:World) (p:Regrown):World:=grow (redrawn w p.d) p.os
theorem z4O (w:World) (p:Regrown):Below w.heap.size w (gw w p):=below_regrown w p.d p.os
theorem z5h {w w' : World} (h:Below w.heap.size w w') : ∃ p:Regrown,w' = gw w p:=regrown_of_below h
def Old (b:Nat) (w:World):Prop:=b<w.heap.size
theorem Old.lt {b:Nat} {w:World} (h:Old b w):b<w.heap.size:=h
theorem Old.of_cell {w:World} {a:Addr} {v:Value} (h:w.cell? a=some v):Old a.block w:=block_lt_of_cell h
@[go_sem,simp] theorem gw_size (w:World) (p:Regrown):(gw w p).heap.size=w.heap.size+p.os.size:=by simp [gw,grow,redrawn]
def OldIn (b:Nat) (w:World) (p:Regrown):Prop:=w.heap.size≤b∧b<w.heap.size+p.os.size
@[go_sem] theorem old_alloc (w:World) (o:Obj) (b:Nat):Old b (w.alloc o)=(b=w.heap.size∨Old b w):=by simp [Old];omega
@[go_sem] theorem old_gw (w:World) (p:Regrown) (b:Nat):Old b (gw w p)=(Old b w∨OldIn b w p):=by simp [Old,OldIn];omega
@[go_sem] theorem old_setCell (w:World) (a:Addr) (v:Value) (b:Nat):Old b (w.setCell a v)=Old b w:=by simp [Old]
@[go_sem] theorem old_setRow (w:World) (g:Nat) (cs:Array Value) (b:Nat):Old b (w.setRow g cs)=Old b w:=by simp [Old]
@[go_sem] theorem old_drew (w:World) (b:Nat):Old b w.drew=Old b w:=by simp [Old]
@[go_sem] theorem gw_cell (w:World) (p:Regrown) (b o:Nat) (h:Old b w):(gw w p).cell? ⟨b,o,none⟩=w.cell? ⟨b,o,none⟩:=(z4O w p).cell (p:=⟨b,o,none⟩) h.lt
@[go_sem] theorem gw_frozen (w:World) (p:Regrown) (b o:Nat) (h:Old b w):(gw w p).frozen? ⟨b,o,none⟩=w.frozen? ⟨b,o,none⟩:=(z4O w p).frozen (p:=⟨b,o,none⟩) h.lt
@[go_sem] theorem alloc_cell (w:World) (ob:Obj) (b o:Nat) (h:Old b w):(w.alloc ob).cell? ⟨b,o,none⟩=w.cell? ⟨b,o,none⟩:=World.cell?_alloc_past ob b o h.lt
@[go_sem] theorem alloc_frozen (w:World) (ob:Obj) (b o:Nat) (h:Old b w):(w.alloc ob).frozen? ⟨b,o,none⟩=w.frozen? ⟨b,o,none⟩:=World.frozen?_alloc_past ob b o h.lt
@[go_sem] theorem alloc_setCell (w:World) (ob:Obj) (b o:Nat) (v:Value) (h:Old b w):(w.alloc ob).setCell ⟨b,o,none⟩ v=(w.setCell ⟨b,o,none⟩ v).alloc ob:=World.setCell_alloc_past ob b o v h.lt
theorem gw_heap (w:World) (p:Regrown) (b:Nat) (h:b<w.heap.size):(gw w p).heap[b]? = w.heap[b]?:=(z4O w p).block b h
@[go_sem] theorem heap_gw (w:World) (p:Regrown) (b:Nat) (h:Old b w):(gw w p).heap[b]? = w.heap[b]?:=gw_heap w p b h.lt
@[go_sem] theorem qD (w:World) (o:Obj) (b:Nat) (h:b=w.heap.size):(w.alloc o).heap[b]? = some o:=by subst h;exact heap_alloc_new w o
@[go_sem] theorem za9 (w:World) (o:Obj) (b:Nat) (h:Old b w):(w.alloc o).heap[b]? = w.heap[b]?:=heap_alloc_old w o h.lt
@[go_sem] theorem gw_setCell (w:World) (p:Regrown) (b o:Nat) (v:Value) (h:Old b w):(gw w p).setCell ⟨b,o,none⟩ v=gw (w.setCell ⟨b,o,none⟩ v) p:=by
 simp only [gw,grow,redrawn,World.setCell]
 rw [modify_append_left _ _ _ _ h.lt]
@[go_sem] theorem gw_drew (w:World) (p:Regrown):(gw w p).drew=gw w ⟨p.d+1,p.os⟩:=rfl
theorem gw_gw (w:World) (p q:Regrown):gw (gw w p) q=gw w ⟨q.d,p.os++q.os⟩:=by
 simp only [gw,redrawn,grow,Array.append_assoc]
theorem z6L (w:World):w=gw w ⟨w.drawn,#[]⟩:=by simp [gw,redrawn,grow]
theorem gw_two (w:World) (p q:Regrown) : ∃ r:Regrown,gw (gw w p) q=gw w r:=⟨_,gw_gw w p q⟩
theorem setRow_gw (w:World) (p:Regrown) (b:Nat) (cs:Array Value) (h:Old b w):(gw w p).setRow b cs=gw (w.setRow b cs) p:=by
 simp only [gw,grow,redrawn,World.setRow]
 rw [modify_append_left _ _ _ _ h.lt]
theorem z4Q (w:World) (c cs:Array Value) (t:TypeId) (n:Nat) (h:n=w.heap.size):(w.alloc (.cells c t)).setRow n cs=w.alloc (.cells cs t):=by
 subst h
 simp only [World.alloc,World.setRow]
 congr 1
 apply Array.ext_getElem?
 intro k
 simp only [Array.getElem?_modify,Array.getElem?_push]
 by_cases hk:k=w.heap.size
 ·subst hk;simp
 ·have : ¬ w.heap.size=k:=fun e=>hk e.symm
  simp [hk,this]
theorem z4e (w:World) (o:Obj) (cs:Array Value) (n:Nat) (h:Old n w):(w.alloc o).setRow n cs=(w.setRow n cs).alloc o:=by
 simp only [World.alloc,World.setRow]
 congr 1
 apply Array.ext_getElem?
 intro k
 simp only [Array.getElem?_modify,Array.getElem?_push,Array.size_modify]
 by_cases hk:k=w.heap.size
 ·subst hk;have : ¬ n=w.heap.size:=by have:=h.lt;omega
  simp [this]
 ·simp [hk]
attribute [go_sem] setRow_gw z4Q z4e
def Gives (v:Value) (w:World) (e:Ending) (w' : World):Prop:=e = .returned v ∧ ∃ p:Regrown,w' = gw w p
theorem Gives.mk {v u:Value} {w w' : World} (hv:u=v) (h:Below w.heap.size w w'):Gives v w (.returned u) w':=⟨by rw [hv],z5h h⟩
theorem Gives.call {P:Program} {f:FuncId} {args:Array Value} {w:World} {p:Regrown} {v:Value}
  (h:Calls P f args (gw w p) (Gives v (gw w p))):Calls P f args (gw w p) fun e w''=>e = .returned v ∧ ∃ q:Regrown,w'' = gw w q :=
 h.mono fun _ _ ⟨he,q,hq⟩=>⟨he,⟨q.d,p.os++q.os⟩,by rw [hq,gw_gw]⟩
theorem Same.call {P:Program} {f:FuncId} {args:Array Value} {w:World} {p:Regrown} {v:Value}
  (h:Calls P f args (gw w p) fun e w'=>e = .returned v∧gw w p=w'):Calls P f args (gw w p) fun e w''=>e = .returned v ∧ ∃ q:Regrown,w'' = gw w q :=
 h.mono fun _ _ ⟨he,hq⟩=>⟨he,p,hq.symm⟩
def left (listed:Array Bool):Nat:=(listed.toList.filter (fun b => !b)).length
theorem z92 {listed:Array Bool} {i:Nat} (h:listed.getD i true=false):left (listed.setIfInBounds i true)+1=left listed:=by
 have hi:i<listed.size:=by
  rcases Nat.lt_or_ge i listed.size with h'|h'
  ·exact h'
  ·simp [Array.getElem?_eq_none h'] at h
 unfold left
 rw [Array.toList_setIfInBounds]
 have hv:listed.toList[i]? = some false:=by simpa [hi] using h
 generalize listed.toList=l at *
 clear h hi
 induction l generalizing i with
 | nil=>simp at hv
 | cons x l ih =>
  cases i with
  | zero=>simp at hv;subst hv;simp
  | succ i =>
   have h:=ih (i:=i) (by simpa using hv)
   cases x <;> simp <;> omega
theorem z1T {md:Region.Mode} {ops:Array Oper} {listed:Array Bool} (h:left listed=0):Region.ready md ops listed = []:=by
 unfold Region.ready
 rw [List.filter_eq_nil_iff]
 intro i _ hc
 simp only [Bool.and_eq_true,Bool.not_eq_true'] at hc
 have hf:=hc.1
 have:=z92 hf
 omega
theorem z7p {P:Program} {md:Region.Mode} {ops:Array Oper} {Q:Exit→Act→World→Prop} (I:Array Bool→Act→World→Prop)
  (step : ∀ listed a w i,I listed a w→i ∈ Region.ready md ops listed→wpOp P ops Q i (I (listed.setIfInBounds i true)) a w)
  (done : ∀ listed a w,I listed a w→Region.ready md ops listed = []→Q .normal a w) :
  ∀ (fuel:Nat) (listed:Array Bool) (a:Act) (w:World),left listed≤fuel→I listed a w→wpAny P md ops Q fuel listed a w
 | 0,listed,a,w,hf,h=>⟨z1T (by omega),done _ _ _ h (z1T (by omega))⟩
 | fuel+1,listed,a,w,hf,h=>⟨fun hr=>done _ _ _ h hr,fun i hi=>wpOp_mono (fun a' w' h'=>z7p I step done fuel _ a' w' (by have:=z92 (mem_ready.1 hi).1;omega) h') (step _ _ _ _ h hi)⟩
def gqUpon (P:Program) (w:World) (v:Value):Result Next→Prop
 | .ok (.value u) w'=>w' = w∧u=v
 | .ok .skip w'=>w' = w∧v=undef
 | .ok (.enter f args) w'=>w' = w∧Calls P f args w (Gives v w)
 | _=>False
def gqAt (P:Program) (o:Oper) (a:Act) (w:World) (v:Value):Prop:=gqUpon P w v ((execOp a.eval o).run P w)
def gquiet (P:Program) (o:Oper) (a:Act) (W:World) (next:Act→Prop):Prop := ∃ v,(∀ p:Regrown,gqAt P o a (gw W p) v)∧next (a.put o.dst v)
attribute [go_sem] gquiet gqAt gqUpon
def slot (a:Act) (t:Tmp):Value:=a.tmps.getD t undef
theorem z1B (a:Act) (d t:Tmp) (v:Value) (hd:d<a.tmps.size):slot (a.put (some d) v) t=if t=d then v else slot a t:=by
 unfold slot Act.put
 by_cases h:t=d
 ·subst h;simp [hd]
 ·simp [h,Array.getElem?_setIfInBounds_ne (fun e:d=t=>h e.symm)]
theorem size_put (a:Act) (d:Option Tmp) (v:Value):(a.put d v).tmps.size=a.tmps.size:=by cases d <;> simp [Act.put]
theorem act_ext {a b:Act} (h1:a.tmps.size=b.tmps.size) (h2:a.defers=b.defers) (h3 : ∀ t,slot a t=slot b t):a=b:=by
 obtain ⟨ta,da⟩:=a
 obtain ⟨tb,db⟩:=b
 simp only at h1 h2
 subst h2
 congr 1
 apply Array.ext h1
 intro i hi hj
 have:=h3 i
 simpa [slot,hi,hj] using this
def dstsOf (l:List Oper):List Tmp:=l.filterMap (·.dst)
theorem z5D {l:List Oper} {t:Tmp} : t ∈ dstsOf l ↔ ∃ o ∈ l,o.dst=some t:=by simp [dstsOf]
def qy (listed:Array Bool) (n:Nat):Nat:=((List.range n).filter (fun i => !listed.getD i true)).length
theorem z7i {listed:Array Bool} {n i:Nat} (hi:i<n) (h:listed.getD i true=false):qy (listed.setIfInBounds i true) n<qy listed n:=by
 have key : ∀ l:List Nat,l.Nodup→(l.filter (fun j => !(listed.setIfInBounds i true).getD j true)).length+(if i ∈ l then 1 else 0)=(l.filter (fun j => !listed.getD j true)).length:=by
  intro l
  induction l with
  | nil=>intro _;simp
  | cons x l ih =>
   intro hnd
   have ⟨hx,hnd'⟩:=List.nodup_cons.1 hnd
   have ih':=ih hnd'
   by_cases e:i=x
   ·subst e
    rw [if_neg hx] at ih'
    rw [if_pos (by simp)]
    have h1:(listed.setIfInBounds i true).getD i true=true:=by
     rcases Nat.lt_or_ge i listed.size with h'|h'
     ·simp [h']
     ·simp [h']
    simp only [List.filter_cons,h1,h,Bool.not_true,Bool.not_false,Bool.false_eq_true,if_false,if_true,List.length_cons]
    omega
   ·have h1:(listed.setIfInBounds i true).getD x true=listed.getD x true:=getD_set_ne true e
    have h2:(i ∈ x :: l)=(i ∈ l):=by simp [e]
    simp only [List.filter_cons,h1,h2]
    split
    ·simp only [List.length_cons];omega
    ·exact ih'
 have:=key (List.range n) List.nodup_range
 rw [if_pos (List.mem_range.2 hi)] at this
 unfold qy
 omega
def z1f (size n:Nat):Array Bool:=((List.range size).map (fun i=>decide (i<n))).toArray
theorem z3k {ops:Array Oper} {n:Nat} {listed:Array Bool} (inv:HeadInv .any ops n listed) (h:qy listed n=0):listed=z1f ops.size n:=by
 have hall : ∀ i,i<n→listed.getD i true=true:=by
  intro i hi
  cases hb:listed.getD i true with
  | true=>rfl
  | false =>
   have:i ∈ (List.range n).filter (fun i => !listed.getD i true):=by rw [List.mem_filter];exact ⟨List.mem_range.2 hi,by rw [hb];rfl⟩
   unfold qy at h
   rw [List.length_eq_zero_iff.1 h] at this
   cases this
 apply Array.ext
 ·simp [z1f,inv.size]
 ·intro i h1 h2
  simp only [z1f,List.getElem_toArray,List.getElem_map,List.getElem_range]
  by_cases hi:i<n
  ·have:=hall i hi
   simpa [h1,hi] using this
  ·have:=inv.tail i (by omega) (by rw [← inv.size];exact h1)
   simpa [h1,hi] using this
theorem z2L {P:Program} {ops:Array Oper} {Q:Exit→Act→World→Prop} {n g:Nat} (I:Array Bool→Act→World→Prop) (inv : ∀ listed a w,I listed a w→HeadInv .any ops n listed)
  (hwait : ∀ listed,HeadInv .any ops n listed→qy listed n ≠ 0→Region.ready .any ops listed ≠ [] ∧ ∀ i ∈ Region.ready .any ops listed,i<n)
  (step : ∀ listed a w i,I listed a w→i<n→i ∈ Region.ready .any ops listed→wpOp P ops Q i (I (listed.setIfInBounds i true)) a w)
  (done : ∀ listed a w,I listed a w→qy listed n=0 → ∀ f,g≤f→wpAny P .any ops Q f listed a w) :
  ∀ (f:Nat) (listed:Array Bool) (a:Act) (w:World),qy listed n+g≤f→I listed a w→wpAny P .any ops Q f listed a w
 | 0,listed,a,w,hf,h=>done _ _ _ h (by omega) _ (by omega)
 | f+1,listed,a,w,hf,h=>by
  by_cases h0:qy listed n=0
  ·exact done _ _ _ h h0 _ (by omega)
  ·obtain ⟨h1,h2⟩:=hwait listed (inv _ _ _ h) h0
   refine ⟨fun e=>absurd e h1,fun i hi=>?_⟩
   refine wpOp_mono (fun a' w' h'=>z2L I inv hwait step done f _ a' w' ?_ h') (step _ _ _ i h (h2 i hi) hi)
   have:=z7i (h2 i hi) (mem_ready.1 hi).1
   omega
theorem z2Q {P:Program} {ops:Array Oper} {Q:Exit→Act→World→Prop} : ∀ (f:Nat) (k:Nat) (listed:Array Bool) (a:Act) (w:World),wpAny P .any ops Q f listed a w→wpAny P .any ops Q (f+k) listed a w
 | 0,0,_,_,_,h=>h
 | 0,k+1,listed,a,w,h=>by
  rw [Nat.zero_add]
  exact ⟨fun _=>h.2,fun i hi=>by rw [h.1] at hi;cases hi⟩
 | f+1,k,listed,a,w,h=>by
  rw [show f+1+k=(f+k)+1 by omega]
  exact ⟨h.1,fun i hi=>wpOp_mono (fun a' w' h'=>z2Q f k _ a' w' h') (h.2 i hi)⟩
def apartB (ops:Array Oper) (n:Nat):Bool:=(List.range n).all (fun i=>(List.range n).all (fun j=>i==j||((ops[i]?).bind (·.dst)) != ((ops[j]?).bind (·.dst))))
theorem z4m {ops:Array Oper} {n:Nat} (hn:n≤ops.size) (hdep:((List.range n).all fun i=>match ops[i]? with|none=>false|some o=>o.after.all (fun e => !Region.binds .any e||decide (e.on<i)))=true)
  (htail:n=ops.size∨(Region.sinkB .any ops n=true∧Region.chainB .any ops n=true)) {listed:Array Bool} (inv:HeadInv .any ops n listed) (h:qy listed n ≠ 0) :
  Region.ready .any ops listed ≠ [] ∧ ∀ i ∈ Region.ready .any ops listed,i<n:=by
 have hex : ∃ i,i<n∧listed.getD i true=false ∧ ∀ j,j<i→listed.getD j true=true:=by
  have hne:((List.range n).filter (fun i => !listed.getD i true)) ≠ []:=fun e=>h (by unfold qy;rw [e];rfl)
  have hsome : ∃ i,i<n∧listed.getD i true=false:=by
   obtain ⟨i,hi⟩:=List.exists_mem_of_ne_nil _ hne
   rw [List.mem_filter] at hi
   exact ⟨i,List.mem_range.1 hi.1,by simpa using hi.2⟩
  have : ∀ k,∀ i,i<k→i<n→listed.getD i true=false → ∃ i,i<n∧listed.getD i true=false ∧ ∀ j,j<i→listed.getD j true=true:=by
   intro k
   induction k with
   | zero=>intro i hi;omega
   | succ k ih =>
    intro i hik hin hf
    by_cases hc : ∃ j,j<i∧listed.getD j true=false
    ·obtain ⟨j,hj,hjf⟩:=hc
     exact ih j (by omega) (by omega) hjf
    ·refine ⟨i,hin,hf,fun j hj=>?_⟩
     cases hb:listed.getD j true with
     | true=>rfl
     | false=>exact absurd ⟨j,hj,hb⟩ hc
  obtain ⟨i,hi,hf⟩:=hsome
  exact this (i+1) i (by omega) hi hf
 obtain ⟨i0,hi0,hun,hleast⟩:=hex
 have hr:i0 ∈ Region.ready .any ops listed:=by
  have hd:=List.all_eq_true.1 hdep i0 (List.mem_range.2 hi0)
  cases ho:ops[i0]? with
  | none=>rw [ho] at hd;cases hd
  | some o =>
   rw [ho] at hd
   refine mem_ready.2 ⟨hun,o,ho,fun e he hb=>?_⟩
   have hlt:=Array.all_eq_true_iff_forall_mem.1 hd e he
   simp only [hb,Bool.not_true,Bool.false_or,decide_eq_true_eq] at hlt
   have ht:=hleast e.on hlt
   have hsz:e.on<listed.size:=by rw [inv.size];omega
   simpa [hsz] using ht
 refine ⟨fun e=>(by rw [e] at hr;cases hr),fun i hi=>?_⟩
 rcases Nat.lt_or_ge i n with hlt|hge
 ·exact hlt
 ·exfalso
  obtain ⟨_,o,ho,_⟩:=mem_ready.1 hi
  have hio:i<ops.size:=(Array.getElem?_eq_some_iff.1 ho).1
  rcases htail with e|⟨hs,hc⟩
  ·omega
  ·exact tail_waits hs hc (by omega) inv _ i0 rfl hi0 hun i hge hi
theorem z8R {ops:Array Oper} {n i j:Nat} (h:apartB ops n=true) (hi:i<n) (hj:j<n) (hne:i ≠ j) {o o' : Oper} (ho:ops[i]? = some o) (ho' : ops[j]? = some o'):o.dst ≠ o'.dst:=by
 have h1:=List.all_eq_true.1 h i (List.mem_range.2 hi)
 have h2:=List.all_eq_true.1 h1 j (List.mem_range.2 hj)
 rw [ho,ho'] at h2
 simp only [Option.bind_some,Bool.or_eq_true,beq_iff_eq,bne_iff_ne] at h2
 rcases h2 with h2|h2
 ·exact absurd h2 hne
 ·exact h2
theorem z15 {W:World} {b:Nat} {cs:Array Value} {t:TypeId} {fr:Nat × Nat} (h:W.heap[b]? = some (.cells cs t fr)) : ∀ o,W.cell? ⟨b,o,none⟩=cs[o]?:=fun o=>cell_of_row W b o cs t fr h
def splice (old:Array Value) (off:Nat) (cs:Array Value):Array Value:=(old.toList.take off++cs.toList++old.toList.drop (off+cs.toList.length)).toArray
theorem z0x {w w' : World} {base:Nat} {e:TypeId} {size:Nat} {v:Value} {n:Nat} {xs:List Value} (h:w.ownsRow base e size v n xs) (hk : ∀ g,v.ownBlock=some g→w'.heap[g]? = w.heap[g]?):w'.ownsRow base e size v n xs:=by
 refine ⟨h.1,?_⟩
 rcases h.2 with hn|⟨g,cap,cur,rfl,hb,hgg,rest⟩
 ·exact .inl hn
 ·exact .inr ⟨g,cap,cur,rfl,hb,(hk g rfl).trans hgg,rest⟩
theorem z4F {w:World} {base:Nat} {e:TypeId} {size:Nat} {g n cap:Nat} {off:Nat} {xs:List Value} (h:w.ownsRow base e size (.slice (some ⟨g,off,none⟩) n cap) n xs) {j:Nat} {u:Value} (hu:xs[j]? = some u):w.cell? ⟨g,j,none⟩=some u:=by
 rcases h.2 with ⟨he,_⟩|⟨g',cap',cur,he,_,hgg,_,_,_,htake⟩
 ·cases he
 ·cases he
  rw [cell_of_row w g j cur e (0,0) hgg]
  rw [← htake,List.getElem?_take] at hu
  split at hu
  ·simpa using hu
  ·cases hu
inductive StopBox (p:Prop):Type
 | mk
def Stop (p:Prop) (_:StopBox p):Prop:=p
theorem Stop.on {p:Prop} {b:StopBox p} (h:p):Stop p b:=h
def z5k (P:Program) (w:World) (F:World→Value→Prop):Result Next→Prop
 | .ok (.value u) w'=>F w' u ∧ ∃ q,w' = gw w q
 | .ok .skip w'=>w' = w∧F w undef
 | .ok (.enter f args) w'=>w' = w∧Calls P f args w fun e w'' => ∃ u,e = .returned u∧F w'' u ∧ ∃ q,w'' = gw w q
 | _=>False
def z7F (P:Program) (ops:Array Oper) (W:World) (size:Nat) (F:Tmp→World→Value→Prop) (o:Oper):Prop :=
 ∀ d,o.dst=some d → ∀ (b:Act) (p:Regrown),b.tmps.size=size→(∀ x ∈ o.looksAt ops,F x (gw W p) (slot b x)) →
  if Region.wanted o (yielded ops b.tmps)=true then z5k P (gw W p) (F d) ((execOp b.eval o).run P (gw W p)) else F d (gw W p) undef
def relB (ops:Array Oper) (n:Nat) (size:Nat):Bool :=
 (List.range n).all (fun i=>match ops[i]? with
  | none=>false
  | some o=>(match o.dst with|none=>false|some d=>decide (d<size))&&(o.looksAt ops).all (fun x => !(List.range n).any (fun j=>((ops[j]?).bind (·.dst))==some x)||o.after.any (fun e=>Region.binds .any e&&((ops[e.on]?).bind (·.dst))==some x&&decide (e.on<n)))) &&
 Region.noSelect ops&&apartB ops n&&decide (n≤ops.size) &&
 (List.range n).all (fun i=>match ops[i]? with|none=>false|some o=>o.after.all (fun e => !Region.binds .any e||decide (e.on<i))) &&
 (decide (n=ops.size)||(Region.sinkB .any ops n&&Region.chainB .any ops n))&&Region.seqB .any ops (ops.size-n) n (z1f ops.size n)
theorem z8a {P:Program} {Q:Exit→Act→World→Prop} {a:Act} {w:World} {l lt:List Oper} (n:Nat) (F:Tmp→World→Value→Prop) (hB:relB l.toArray n a.tmps.size=true) (ht:l.drop n=lt)
  (mono : ∀ t v w q,F t w v→F t (gw w q) v)
  (start : ∀ t,(∀ i,i<n→((l[i]?).bind (·.dst)) ≠ some t) → ∀ p,F t (gw w.drew p) (slot a t))
  (each : ∀ o ∈ l.take n,z7F P l.toArray w.drew a.tmps.size F o)
  (tail : ∀ (b:Act) (p:Regrown),b.defers=a.defers→b.tmps.size=a.tmps.size→(∀ t,(∀ i,i<n→((l[i]?).bind (·.dst)) ≠ some t)→slot b t=slot a t)→(∀ t,F t (gw w.drew p) (slot b t))→wpList P l.toArray Q lt b (gw w.drew p)) :
  wpAny P .any l.toArray Q l.toArray.size (Array.replicate l.toArray.size false) a w.drew:=by
 subst ht
 simp only [relB,Bool.and_eq_true,decide_eq_true_eq,Bool.or_eq_true] at hB
 obtain ⟨⟨⟨⟨⟨⟨hlook,hsel⟩,hap⟩,hn⟩,hdep⟩,htail⟩,hseq⟩:=hB
 have hsel':=Region.noSelect_spec hsel
 have hdst : ∀ i o,i<n→l.toArray[i]? = some o → ∃ d,o.dst=some d∧d<a.tmps.size:=fun i o hi ho=>by
  have:=List.all_eq_true.1 hlook i (List.mem_range.2 hi)
  rw [ho] at this
  simp only [Bool.and_eq_true] at this
  cases hd:o.dst with
  | none=>simp [hd] at this
  | some d=>simp [hd] at this;exact ⟨d,rfl,this.1⟩
 let I:Array Bool→Act→World→Prop:=fun listed a' w' => ∃ q:Regrown,w' = gw w.drew q∧a'.defers=a.defers∧a'.tmps.size=a.tmps.size∧HeadInv .any l.toArray n listed ∧
  (∀ t,(∀ i,i<n→((l[i]?).bind (·.dst)) ≠ some t)→slot a' t=slot a t) ∧
  (∀ i o d,i<n→l.toArray[i]? = some o→o.dst=some d→listed.getD i false=true→F d w' (slot a' d))
 have sees : ∀ {listed:Array Bool} {a' : Act} {w' : World} {i:Nat} {o:Oper},I listed a' w' → i<n→i ∈ Region.ready .any l.toArray listed→l.toArray[i]? = some o → ∀ x ∈ o.looksAt l.toArray,F x w' (slot a' x):=by
  intro listed a' w' i o ⟨q,hw,_,_,hinv,s1,s2⟩ hi hr ho x hx
  have hl:=List.all_eq_true.1 hlook i (List.mem_range.2 hi)
  rw [ho] at hl
  simp only [Bool.and_eq_true] at hl
  have hl':=List.all_eq_true.1 hl.2 x hx
  simp only [Bool.or_eq_true,Bool.not_eq_true'] at hl'
  rcases hl' with hno|hxq
  ·have hno' : ∀ i,i<n→((l[i]?).bind (·.dst)) ≠ some x:=fun j hj e=>by
    have:=List.any_eq_false.1 hno j (List.mem_range.2 hj)
    simp [e] at this
   rw [s1 x hno',hw]
   exact start x hno' q
  ·obtain ⟨k,hk,he2⟩:=Array.any_eq_true.1 hxq
   simp only [Bool.and_eq_true,beq_iff_eq,decide_eq_true_eq] at he2
   obtain ⟨⟨hb,hdx⟩,hen⟩:=he2
   obtain ⟨_,o2,ho2,hall⟩:=mem_ready.1 hr
   have:o2=o:=Option.some.inj (ho2.symm.trans ho)
   subst this
   have hle:=hall _ (Array.getElem_mem hk) hb
   cases hoe:(l.toArray)[o2.after[k].on]? with
   | none=>rw [hoe] at hdx;cases hdx
   | some oe =>
    rw [hoe] at hdx
    exact s2 _ oe x hen hoe (by simpa using hdx) hle
 have after : ∀ {listed:Array Bool} {a' : Act} {w' w'' : World} {i:Nat} {o:Oper} {d:Tmp} {v:Value},I listed a' w' → i<n→i ∈ Region.ready .any l.toArray listed→l.toArray[i]? = some o→o.dst=some d→d<a.tmps.size →
   (∃ q,w'' = gw w' q)→F d w'' v→I (listed.setIfInBounds i true) (a'.put o.dst v) w'':=by
  intro listed a' w' w'' i o d v ⟨q,hw,hdef,hsz,hinv,s1,s2⟩ hi hr ho hd hdlt ⟨q',hq'⟩ hF
  have hdlt' : d<a'.tmps.size:=hsz ▸ hdlt
  obtain ⟨q2,hq2⟩:=gw_two w.drew q q'
  rw [hd]
  refine ⟨q2,by rw [hq',hw,hq2],hdef,(size_put _ _ _).trans hsz,hinv.set hr hi,?_,?_⟩
  ·intro t ht
   rw [z1B a' d t v hdlt',if_neg]
   ·exact s1 t ht
   ·intro e
    subst e
    exact ht i hi (by rw [← hd];simpa using congrArg (Option.bind · (·.dst)) ho)
  ·intro j o' d' hj ho' hd' hl
   by_cases hij:i=j
   ·subst hij
    have e1:o' = o:=Option.some.inj (ho'.symm.trans ho)
    subst e1
    have e2:d' = d:=Option.some.inj (hd'.symm.trans hd)
    subst e2
    rw [z1B a' d' d' v hdlt',if_pos rfl]
    exact hF
   ·have hne:d' ≠ d:=fun e=>by subst e;exact z8R hap hi hj hij ho ho' (hd.trans hd'.symm)
    rw [getD_set_ne false hij] at hl
    rw [z1B a' d d' v hdlt',if_neg hne,hq']
    exact mono _ _ _ _ (s2 j o' d' hj ho' hd' hl)
 have hstart:I (Array.replicate l.toArray.size false) a w.drew:=by
  refine ⟨_,z6L _,rfl,rfl,⟨by simp,fun j oj _ hl=>(by rw [getD_replicate_false] at hl;cases hl),fun t _ ht=>getD_in (by simpa using ht) (getD_replicate_false _ _)⟩,fun _ _=>rfl,?_⟩
  intro i o d _ _ _ hl;rw [getD_replicate_false] at hl;cases hl
 refine z2L (n:=n) (g:=l.toArray.size-n) I (fun _ _ _ ⟨_,_,_,_,hinv,_⟩=>hinv) (fun listed inv h0=>z4m hn hdep htail inv h0) ?_ ?_ _ _ _ _ ?_ hstart
 ·-- a step
  intro listed a' w' i hI hi hr
  obtain ⟨_,o,ho,_⟩:=mem_ready.1 hr
  have hs:=sees hI hi hr ho
  have hI':=hI
  obtain ⟨q,hw,hdef,hsz,hinv,s1,s2⟩:=hI'
  obtain ⟨d,hd,hdlt⟩:=hdst i o hi ho
  have hmem:o ∈ l.take n:=List.mem_iff_getElem?.2 ⟨i,by rw [List.getElem?_take,if_pos hi];simpa using ho⟩
  have hat:=each o hmem d hd a' q hsz (by rw [← hw];exact hs)
  unfold wpOp
  rw [ho]
  by_cases hwant:Region.wanted o (yielded l.toArray a'.tmps)=true
  ·rw [if_pos hwant] at hat
   simp only [hwant,if_true]
   refine .inl ?_
   unfold Oper.wp
   rw [hw]
   generalize (execOp a'.eval o).run P (gw w.drew q)=res at hat
   cases res with
   | halt x w1=>exact hat.elim
   | ok nx w1 =>
    cases nx <;> simp only [z5k] at hat <;> simp only [Oper.upon]
    case value u =>
     obtain ⟨hF,q1,rfl⟩:=hat
     exact after hI hi hr ho hd hdlt ⟨q1,by rw [hw]⟩ hF
    case skip =>
     obtain ⟨rfl,hF⟩:=hat
     exact after hI hi hr ho hd hdlt ⟨_,by rw [hw];exact z6L _⟩ hF
    case enter f args =>
     obtain ⟨rfl,hc⟩:=hat
     refine hc.mono fun e w2 he=>?_
     obtain ⟨u,rfl,hF,q2,rfl⟩:=he
     exact after hI hi hr ho hd hdlt ⟨q2,by rw [hw]⟩ hF
  ·rw [if_neg hwant] at hat
   have hwant' : Region.wanted o (yielded l.toArray a'.tmps)=false:=by simpa using hwant
   simp only [hwant',Bool.false_eq_true,if_false]
   exact after hI hi hr ho hd hdlt ⟨_,z6L _⟩ (by rw [hw];exact hat)
 ·-- the tail
  intro listed a' w' ⟨q,hw,hdef,hsz,hinv,s1,s2⟩ h0 f hf
  have hl:=z3k hinv h0
  have hgd : ∀ i,i<n→listed.getD i false=true:=by
   intro i hi
   rw [hl]
   have:i<l.length:=by have:=hn;simp at this;omega
   simp [z1f,this,hi]
  have hwl:=tail a' q hdef hsz s1 (fun t=>by
   by_cases ht : ∀ i,i<n→((l[i]?).bind (·.dst)) ≠ some t
   ·rw [s1 t ht];exact start t ht q
   ·have : ∃ i,i<n∧((l[i]?).bind (·.dst))=some t:=by
     refine Classical.byContradiction fun h=>ht fun i hi e=>h ⟨i,hi,e⟩
    obtain ⟨i,hi,e⟩:=this
    cases ho:l[i]? with
    | none=>rw [ho] at e;cases e
    | some o =>
     rw [ho] at e
     rw [← hw]
     exact s2 i o t hi (by simpa using ho) (by simpa using e) (hgd i hi))
  rw [← hw] at hwl
  have hdl:(l.drop n).length=l.toArray.size-n:=by simp
  have:=wpAny_of_seq (md := .any) (Q':=Q) (l.drop n) n listed a' w' (fun j=>by simp [List.getElem?_drop]) (by rw [hdl,hl];exact hseq) hwl
  rw [hdl] at this
  have h2:=z2Q _ (f-(l.toArray.size-n)) _ _ _ this
  rwa [show l.toArray.size-n+(f-(l.toArray.size-n))=f by omega] at h2
 ·-- the fuel
  have:qy (Array.replicate l.toArray.size false) n≤n:=by
   unfold qy
   exact Nat.le_trans (List.length_filter_le _ _) (by simp)
  omega
def FofL:List Tmp→List (World→Value→Prop)→Act→Tmp→World→Value→Prop
 | d :: ds,G :: Gs,a,t,w,v=>if t=d then G w v else FofL ds Gs a t w v
 | _,_,a,t,_,v=>v=slot a t
theorem z2C {a:Act} : ∀ (ds:List Tmp) (Gs:List (World→Value→Prop)),(∀ G ∈ Gs,∀ v w q,G w v→G (gw w q) v) → ∀ t v w q,FofL ds Gs a t w v→FofL ds Gs a t (gw w q) v
 | [],_,_,_,_,_,_,h=>h
 | _ :: _,[],_,_,_,_,_,h=>h
 | d :: ds,G :: Gs,hm,t,v,w,q,h=>by
  simp only [FofL] at h ⊢
  by_cases e:t=d
  ·rw [if_pos e] at h ⊢
   exact hm G (List.mem_cons.2 (.inl rfl)) _ _ _ h
  ·rw [if_neg e] at h ⊢
   exact z2C ds Gs (fun G' h'=>hm G' (List.mem_cons.2 (.inr h'))) t v w q h
theorem z3v {a:Act} : ∀ (ds:List Tmp) (Gs:List (World→Value→Prop)) (t:Tmp) (w:World),t ∉ ds→FofL ds Gs a t w (slot a t)
 | [],_,_,_,_=>rfl
 | _ :: _,[],_,_,_=>rfl
 | d :: ds,G :: Gs,t,w,h=>by
  simp only [FofL]
  rw [if_neg (fun e=>h (by rw [e];exact List.mem_cons.2 (.inl rfl)))]
  exact z3v ds Gs t w (fun h'=>h (List.mem_cons.2 (.inr h')))
def z4u (P:Program) (ops:Array Oper) (W:World) (size:Nat) (F:Tmp→World→Value→Prop):List Oper→Prop
 | []=>True
 | o :: r=>z7F P ops W size F o∧z4u P ops W size F r
theorem z1M {P:Program} {ops:Array Oper} {W:World} {size:Nat} {F:Tmp→World→Value→Prop} : ∀ {l:List Oper},z4u P ops W size F l → ∀ o ∈ l,z7F P ops W size F o
 | [],_,_,ho=>by cases ho
 | x :: r,⟨h1,h2⟩,o,ho=>(List.mem_cons.1 ho).elim (fun e=>e ▸ h1) (fun h'=>z1M h2 o h')
def z2w:List (World→Value→Prop)→Prop
 | []=>True
 | G :: r=>(∀ v w q,G w v→G (gw w q) v)∧z2w r
theorem z1q : ∀ {l:List (World→Value→Prop)},z2w l → ∀ G ∈ l,∀ v w q,G w v→G (gw w q) v
 | [],_,_,ho=>by cases ho
 | x :: r,⟨h1,h2⟩,o,ho=>(List.mem_cons.1 ho).elim (fun e=>e ▸ h1) (fun h'=>z1q h2 o h')
theorem z8W {P:Program} {Q:Exit→Act→World→Prop} {a:Act} {w:World} {l lt lh:List Oper} (n:Nat) (ds:List Tmp) (Gs:List (World→Value→Prop)) (hB:relB l.toArray n a.tmps.size=true) (hd:dstsOf (l.take n)=ds)
  (hh:l.take n=lh) (ht:l.drop n=lt) (mono:z2w Gs) (each:z4u P l.toArray w.drew a.tmps.size (FofL ds Gs a) lh)
  (tail : ∀ (b:Act) (p:Regrown),b.defers=a.defers→b.tmps.size=a.tmps.size→(∀ t,t ∉ ds→slot b t=slot a t)→(∀ t,FofL ds Gs a t (gw w.drew p) (slot b t))→wpList P l.toArray Q lt b (gw w.drew p)) :
  wpAny P .any l.toArray Q l.toArray.size (Array.replicate l.toArray.size false) a w.drew:=by
 subst hh
 have hmem : ∀ t,t ∈ ds ↔ ∃ i,i<n∧((l[i]?).bind (·.dst))=some t:=by
  intro t
  rw [← hd,z5D]
  constructor
  ·rintro ⟨o,ho,e⟩
   obtain ⟨i,hi⟩:=List.mem_iff_getElem?.1 ho
   rw [List.getElem?_take] at hi
   split at hi
   ·rename_i hlt
    exact ⟨i,hlt,by rw [hi];simpa using e⟩
   ·cases hi
  ·rintro ⟨i,hi,e⟩
   cases ho:l[i]? with
   | none=>rw [ho] at e;cases e
   | some o =>
    rw [ho] at e
    exact ⟨o,List.mem_iff_getElem?.2 ⟨i,by rw [List.getElem?_take,if_pos hi];exact ho⟩,by simpa using e⟩
 refine z8a n (FofL ds Gs a) hB ht (z2C ds Gs (z1q mono)) (fun t h p=>z3v ds Gs t _ (fun h'=>?_)) (z1M each) (fun b p h1 h2 h3 h4=>tail b p h1 h2 (fun t h=>h3 t (fun i hi e=>h ((hmem t).2 ⟨i,hi,e⟩))) h4)
 obtain ⟨i,hi,e⟩:=(hmem t).1 h'
 exact h i hi e
structure Blw (B:Nat) (w w' : World):Prop extends Below B w w'
theorem Blw.refl (B:Nat) (w:World):Blw B w w:=⟨Below.refl _ _⟩
theorem Blw.trans {B:Nat} {a b c:World} (h:Blw B a b) (k:Blw B b c):Blw B a c:=⟨h.toBelow.trans k.toBelow⟩
theorem Blw.mono {B B' : Nat} {w w' : World} (h:Blw B w w') (hB:B' ≤ B):Blw B' w w':=⟨h.toBelow.mono hB⟩
theorem Blw.drew {B:Nat} {a w:World} (h:Blw B a w):Blw B a w.drew:=⟨h.toBelow.drew⟩
theorem Blw.alloc {B:Nat} {a w:World} (h:Blw B a w) (hB:B≤w.heap.size) (o:Obj):Blw B a (w.alloc o):=⟨h.toBelow.alloc hB o⟩
def gm (w:World) (p:Regrown):World:=gw w p
theorem z8m (w:World):w=gm w ⟨w.drawn,#[]⟩:=z6L w
theorem gm_two (w:World) (p q:Regrown) : ∃ r:Regrown,gm (gm w p) q=gm w r:=gw_two w p q
theorem z6z (w:World) (p:Regrown):Blw w.heap.size w (gm w p):=⟨z4O w p⟩
theorem z5l {w w' : World} (h:Blw w.heap.size w w') : ∃ p:Regrown,w' = gm w p:=z5h h.toBelow
inductive PV where
 | val (v:Value)
 | seq (n:Nat) (rows:List (List PV))
instance:Inhabited PV:=⟨.val (.bool false)⟩
inductive PR (D:Nat→Prop) (w:World):PV→Value→Prop where
 | val (v:Value) (h:v.oneCell' = true):PR D w (.val v) v
 | nil (n:Nat) (a:Option Addr) (cap:Nat) (h0:a=none→cap=0):PR D w (.seq n []) (.slice a 0 cap)
 | seq (n b off cap:Nat) (rows:List (List PV)) (f:Nat→Nat→Value) (hb:b<w.heap.size) (hD : ¬ D b) (hcap:rows.length≤cap) (hmax:cap≤maxLen)
   (hn : ∀ r ∈ rows,r.length=n)
   (hc : ∀ k r j x,rows[k]? = some r→r[j]? = some x→w.cell? ⟨b,off+k*n+j,none⟩=some (f k j))
   (hr : ∀ k r j x,rows[k]? = some r→r[j]? = some x→PR D w x (f k j)):PR D w (.seq n rows) (.slice (some ⟨b,off,none⟩) rows.length cap)
structure Kp (D:Nat→Prop) (w w' : World):Prop where
 os:w'.os=w.os
 tape:w'.tape=w.tape
 output:w'.output=w.output
 size:w.heap.size≤w'.heap.size
 block : ∀ k,k<w.heap.size → ¬ D k→w'.heap[k]? = w.heap[k]?
theorem Kp.refl (D:Nat→Prop) (w:World):Kp D w w:=⟨rfl,rfl,rfl,Nat.le_refl _,fun _ _ _=>rfl⟩
theorem Kp.trans {D D1:Nat→Prop} {a b c:World} (h:Kp D a b) (k:Kp D1 b c) (hD : ∀ x,D1 x→D x∨a.heap.size≤x):Kp D a c :=
 ⟨k.os.trans h.os,k.tape.trans h.tape,k.output.trans h.output,Nat.le_trans h.size k.size,fun i hi hn=>(k.block i (Nat.lt_of_lt_of_le hi h.size) (fun h1=>(hD i h1).elim hn (fun h2=>by omega))).trans (h.block i hi hn)⟩
theorem Kp.of_below {D:Nat→Prop} {w w' : World} (h:Blw w.heap.size w w'):Kp D w w':=⟨h.os,h.tape,h.output,h.size,fun k hk _=>h.block k hk⟩
theorem Kp.below {w w' : World} (h:Kp (fun _=>False) w w'):Blw w.heap.size w w':=⟨⟨h.os,h.tape,h.output,h.size,fun k hk=>h.block k hk id⟩⟩
theorem Kp.cell {D:Nat→Prop} {w w' : World} (h:Kp D w w') {b o:Nat} (hb:b<w.heap.size) (hn : ¬ D b):w'.cell? ⟨b,o,none⟩=w.cell? ⟨b,o,none⟩:=World.cell?_of_block (w:=w) (h.block b hb hn)
theorem PR.one {D:Nat→Prop} {w:World} {x:PV} {v:Value} (h:PR D w x v):v.oneCell' = true:=by
 cases h <;> first|assumption|rfl
theorem PR.mono {D D' : Nat→Prop} {w w' : World} {x:PV} {v:Value} (h:PR D w x v) (hk:Kp D w w') (hD : ∀ k,k<w.heap.size→D' k→D k):PR D' w' x v:=by
 induction h with
 | val v h=>exact .val v h
 | nil n a cap h0=>exact .nil n a cap h0
 | seq n b off cap rows f hb hnD hcap hmax hn hc hr ih =>
  exact .seq n b off cap rows f (Nat.lt_of_lt_of_le hb hk.size) (fun h=>hnD (hD _ hb h)) hcap hmax hn (fun k r j x h1 h2=>(hk.cell hb hnD).trans (hc k r j x h1 h2)) ih
inductive AV where
 | p (x:PV)
 | elt (row:List PV) (off:Nat)
 | ptr (t off:Nat)
 | rptr (t n k off:Nat)
 | own (t:Nat)
 | pre (t m:Nat)
 | suf (t n m:Nat)
 | cap0
 | fn (f:Fn) (caps:List AV)
 | agg (cs:List AV)
 | tup (cs:List AV)
 | zA
instance:Inhabited AV:=⟨.zA⟩
inductive AR (N:Nat) (D:Nat→Prop) (loc:Nat→Option Value) (w:World):AV→Value→Prop where
 | p (x:PV) (v:Value) (h:PR D w x v):AR N D loc w (.p x) v
 | elt (row:List PV) (off b o:Nat) (f:Nat→Value) (hb:b<w.heap.size) (hD : ¬ D b) (hc : ∀ j x,row[j]? = some x→w.cell? ⟨b,o+j,none⟩=some (f j)) (hr : ∀ j x,row[j]? = some x→PR D w x (f j)) :
   AR N D loc w (.elt row off) (.pointer (some ⟨b,o+off,none⟩))
 | ptr (t off:Nat) (v:Value) (ht:t<N) (h1:v.oneCell' = true) (h : ∀ b,loc t=some (.pointer (some ⟨b,0,none⟩))→v = .pointer (some ⟨b,off,none⟩)):AR N D loc w (.ptr t off) v
 | rptr (t n k off:Nat) (v:Value) (ht:t<N) (h1:v.oneCell' = true) (h : ∀ b l c,loc t=some (.slice (some ⟨b,0,none⟩) l c)→v = .pointer (some ⟨b,k*n+off,none⟩)):AR N D loc w (.rptr t n k off) v
 | own (t:Nat) (v:Value) (ht:t<N) (h1:v.oneCell' = true) (h : ∀ u,loc t=some u→v=u):AR N D loc w (.own t) v
 | pre (t m:Nat) (v:Value) (ht:t<N) (h1:v.oneCell' = true) (h : ∀ b l c,loc t=some (.slice (some ⟨b,0,none⟩) l c)→v = .slice (some ⟨b,0,none⟩) m c):AR N D loc w (.pre t m) v
 | suf (t n m:Nat) (v:Value) (ht:t<N) (h1:v.oneCell' = true) (h : ∀ b l c,loc t=some (.slice (some ⟨b,0,none⟩) l c) → ∃ o,v = .slice (some ⟨b,o,none⟩) (l-m) (c-m)∧(m<c→o=m*n)):AR N D loc w (.suf t n m) v
 | fn (f:Fn) (caps:List AV) (vs:Array Value) (hl:vs.size=caps.length) (h : ∀ j x,caps[j]? = some x→AR N D loc w x (vs.getD j undef)):AR N D loc w (.fn f caps) (.func f #[] vs)
 | agg (cs:List AV) (vs:Array Value) (hl:vs.size=cs.length) (h : ∀ j x,cs[j]? = some x→AR N D loc w x (vs.getD j undef)) (h1 : ∀ j,j<vs.size→(vs.getD j undef).oneCell' = true):AR N D loc w (.agg cs) (.agg vs)
 | tup (cs:List AV) (vs:Array Value) (hl:vs.size=cs.length) (h : ∀ j x,cs[j]? = some x→AR N D loc w x (vs.getD j undef)):AR N D loc w (.tup cs) (.tuple vs)
 | cap0 (a:Option Addr) (h : ∀ x,a=some x→x.block<w.heap.size ∧ ¬ D x.block∧x.spot=none):AR N D loc w .cap0 (.slice a 0 0)
 | zA (v:Value):AR N D loc w .zA v
theorem AR.mono {N N' : Nat} {D D' : Nat→Prop} {loc loc' : Nat→Option Value} {w w' : World} {x:AV} {v:Value} (h:AR N D loc w x v) (hN:N≤N') (hk:Kp D w w') (hD : ∀ k,k<w.heap.size→D' k→D k)
  (hl : ∀ t u,t<N→loc' t=some u→loc t=some u):AR N' D' loc' w' x v:=by
 induction h with
 | p x v h=>exact .p x v (h.mono hk hD)
 | elt row off b o f hb hnD hc hr=>exact .elt row off b o f (Nat.lt_of_lt_of_le hb hk.size) (fun h=>hnD (hD _ hb h)) (fun j x h1=>(hk.cell hb hnD).trans (hc j x h1)) (fun j x h1=>(hr j x h1).mono hk hD)
 | ptr t off v ht h1 h=>exact .ptr t off v (Nat.lt_of_lt_of_le ht hN) h1 (fun b hb=>h b (hl t _ ht hb))
 | rptr t n k off v ht h1 h=>exact .rptr t n k off v (Nat.lt_of_lt_of_le ht hN) h1 (fun b l c hb=>h b l c (hl t _ ht hb))
 | own t v ht h1 h=>exact .own t v (Nat.lt_of_lt_of_le ht hN) h1 (fun u hu=>h u (hl t u ht hu))
 | pre t m v ht h1 h=>exact .pre t m v (Nat.lt_of_lt_of_le ht hN) h1 (fun b l c hu=>h b l c (hl t _ ht hu))
 | suf t n m v ht h1 h=>exact .suf t n m v (Nat.lt_of_lt_of_le ht hN) h1 (fun b l c hu=>h b l c (hl t _ ht hu))
 | cap0 a h=>exact .cap0 a fun x hx=>⟨Nat.lt_of_lt_of_le (h x hx).1 hk.size,fun hd=>(h x hx).2.1 (hD _ (h x hx).1 hd),(h x hx).2.2⟩
 | fn f caps vs hlen _ ih=>exact .fn f caps vs hlen ih
 | agg cs vs hlen _ h1 ih=>exact .agg cs vs hlen ih h1
 | tup cs vs hlen _ ih=>exact .tup cs vs hlen ih
 | zA v=>exact .zA v
def AV.okB (n:Nat):AV→Bool
 | .ptr t _=>decide (t<n)
 | .rptr t _ _ _=>decide (t<n)
 | .own t=>decide (t<n)
 | .pre t _=>decide (t<n)
 | .suf t _ _=>decide (t<n)
 | .fn _ cs=>cs.attach.all fun ⟨c,_⟩=>c.okB n
 | .agg cs=>cs.attach.all fun ⟨c,_⟩=>c.okB n
 | .tup cs=>cs.attach.all fun ⟨c,_⟩=>c.okB n
 | _=>true
theorem AR.low {N n:Nat} {D:Nat→Prop} {loc:Nat→Option Value} {w:World} {x:AV} {v:Value} (h:AR N D loc w x v) (hx:x.okB n=true):AR n D loc w x v:=by
 induction h with
 | p x v h=>exact .p x v h
 | elt row off b o f hb hnD hc hr=>exact .elt row off b o f hb hnD hc hr
 | ptr t off v ht h1 h=>exact .ptr t off v (by simpa [AV.okB] using hx) h1 h
 | rptr t n k off v ht h1 h=>exact .rptr t n k off v (by simpa [AV.okB] using hx) h1 h
 | own t v ht h1 h=>exact .own t v (by simpa [AV.okB] using hx) h1 h
 | pre t m v ht h1 h=>exact .pre t m v (by simpa [AV.okB] using hx) h1 h
 | suf t k m v ht h1 h=>exact .suf t k m v (by simpa [AV.okB] using hx) h1 h
 | cap0 a h=>exact .cap0 a h
 | fn f caps vs hlen _ ih =>
  simp only [AV.okB,List.all_eq_true,List.mem_attach,forall_const,Subtype.forall] at hx
  exact .fn f caps vs hlen fun j y hy=>ih j y hy (hx y (List.mem_of_getElem? hy))
 | agg cs vs hlen _ h1 ih =>
  simp only [AV.okB,List.all_eq_true,List.mem_attach,forall_const,Subtype.forall] at hx
  exact .agg cs vs hlen (fun j y hy=>ih j y hy (hx y (List.mem_of_getElem? hy))) h1
 | tup cs vs hlen _ ih =>
  simp only [AV.okB,List.all_eq_true,List.mem_attach,forall_const,Subtype.forall] at hx
  exact .tup cs vs hlen fun j y hy=>ih j y hy (hx y (List.mem_of_getElem? hy))
 | zA v=>exact .zA v
structure LSpec where
 n:Nat
 fn:FuncId
 ps:Array Tmp
 assign:Code
 body:Code
 D:Nat
inductive AO where
 | boxP (pin:Option Nat) (ty:TypeId) (cs:List AV)
 | row (e:TypeId) (n:Nat) (rows:List (List PV))
 | map (pin:Option Nat) (P:Program) (k:TypeId) (n:Nat) (f:Lit→Option Value)
 | raw (u:Value) (ob:Obj)
 | lrec (l:Nat) (sp:LSpec) (fr:List (Nat × AV))
 | amap (P:Program) (k:TypeId) (n:Nat) (f:Lit→Option AV) (q:Option (Nat × Lit))
 | arow (e:TypeId) (cs:List AV)
@[reducible] def AO.box (ty:TypeId) (cs:List AV):AO := .boxP none ty cs
def z3u (v:Value):Option (DataW Value × List MemPlace):=some (.held v,[])
def z3Q (D:DataW Value) (f:Lit→Option Value):Prop := ∀ kl,WideAt.IsKeyLit kl → ∀ z,D.atKey kl z=match f kl with
 | some v => .held v
 | none=>z
def MPend (w:World) (b:Nat) (P:Program) (k:TypeId):Option (Nat × Lit)→Prop
 | none=>True
 | some p => ∃ es ck e,w.heap[b]? = some (.map es ck)∧e ∈ es.toList∧e.born=p.1∧keyOf P k e.key=some p.2
theorem MPend.mono {w w' : World} {b:Nat} {P:Program} {k:TypeId} {q:Option (Nat × Lit)} (h:MPend w b P k q) (hb:w'.heap[b]? = w.heap[b]?):MPend w' b P k q:=by
 cases q with
 | none=>trivial
 | some p=>obtain ⟨es,ck,e,h1,h2⟩:=h;exact ⟨es,ck,e,hb.trans h1,h2⟩
def zP:Value→Option Nat
 | .pointer (some a)=>some a.block
 | .slice (some a) _ _=>some a.block
 | .map (some r)=>some r
 | .func (.yield l) _ _=>some l
 | _=>none
def Dm (L:Nat→Prop) (loc:Nat→Option Value) (b:Nat):Prop:=L b ∨ ∃ t u,loc t=some u∧zP u=some b
def OR (N:Nat) (D:Nat→Prop) (loc:Nat→Option Value) (w:World) (u:Value):AO→Prop
 | .boxP pin ty cs => ∃ b arr,u = .pointer (some ⟨b,0,none⟩)∧w.heap[b]? = some (.cells arr ty (0,0))∧arr.size=cs.length∧(∀ j x,cs[j]? = some x→AR N D loc w x (arr.getD j undef))∧(∀ j,j<arr.size→(arr.getD j undef).oneCell' = true) ∧ ∀ p,pin=some p→p=b
 | .row e n rows => ∃ flat,w.ownsRow 0 e n u rows.length flat∧(∀ r ∈ rows,r.length=n)∧(∀ k r j x,rows[k]? = some r→r[j]? = some x → ∃ v,flat[k*n+j]? = some v∧PR D w x v) ∧ ∀ v ∈ flat,v.oneCell' = true
 | .map pin P k n f => ∃ b D,u = .map (some b)∧w.ownsMap (H:=Value) P k z3u b n D∧z3Q D f ∧ ∀ p,pin=some p→p=b
 | .raw v ob => ∃ b,u=v∧zP v=some b∧w.heap[b]? = some ob
 | .lrec l sp fr=>u = .func (.yield l) #[] #[] ∧ ∃ tmps:Array Value,w.heap[l]? = some (.loop { state := .ready,pending:=none,fn:=sp.fn,tmps:=tmps,params:=sp.ps,assign:=sp.assign,body:=sp.body,defers:=sp.D })∧tmps.size=sp.n ∧ ∀ t,AR N D loc w ((fr.lookup t).getD .zA) (tmps.getD t undef)
 | .amap P k n f q => ∃ b DD g,u = .map (some b)∧w.ownsMap (H:=Value) P k z3u b n DD∧z3Q DD g∧(∀ kl,(∀ x,f kl=some x → ∃ v,g kl=some v∧AR N D loc w x v)∧(f kl=none→g kl=none))∧MPend w b P k q
 | .arow e cs => ∃ flat,w.ownsRow 0 e 1 u cs.length flat∧(∀ (j:Nat) x,cs[j]? = some x → ∃ v,flat[j]? = some v∧AR N D loc w x v) ∧ ∀ v ∈ flat,v.oneCell' = true
abbrev Hp:=List (Nat × AO)
structure HRel (L:Nat→Prop) (N:Nat) (hp:Hp) (loc:Nat→Option Value) (w:World):Prop where
 at' : ∀ t o,hp.lookup t=some o→t<N ∧ ∃ u,loc t=some u∧OR N (Dm L loc) loc w u o
 dead : ∀ t,hp.lookup t=none→loc t=none
 apart : ∀ t t' u u' b,loc t=some u→loc t' = some u' → zP u=some b→zP u' = some b→t=t'
 inL : ∀ b,L b→b<w.heap.size
 notL : ∀ t u b,loc t=some u→zP u=some b → ¬ L b
structure Lim where
 blk:Nat→Prop
 ds:List Deferred
instance:CoeFun Lim (fun _=>Nat→Prop):=⟨Lim.blk⟩
instance:Coe Lim (Nat→Prop):=⟨Lim.blk⟩
structure ASt where
 fr:List (Nat × AV)
 hp:Hp
 n:Nat
 N:Nat
def ASt.get (s:ASt) (t:Nat):AV:=(s.fr.lookup t).getD .zA
def ASt.put (s:ASt) (d:Option Nat) (x:AV):ASt:=match d with
 | some t => { s with fr:=(t,x) :: s.fr }
 | none=>s
def cv (v:Value):AV:=if v.oneCell' then .p (.val v) else match v with
 | .agg vs=>if vs.all (·.oneCell') then .agg (vs.toList.map fun v => .p (.val v)) else .zA
 | _ => .zA
def ASt.ev (s:ASt):Operand→AV
 | .tmp t=>s.get t
 | .const v=>cv v
 | .func f => .fn (.func f) []
 | .global g => .p (.val (.pointer (some ⟨g,0,none⟩)))
structure Rel (X:Nat→Prop) (L:Lim) (s:ASt) (loc:Nat→Option Value) (a:Act) (w:World):Prop where
 defers:a.defers=L.ds
 size:a.tmps.size=s.n
 fr : ∀ t,X t→AR s.N (Dm L loc) loc w (s.get t) (slot a t)
 hp:HRel L s.N s.hp loc w
abbrev All:Nat→Prop:=fun _=>True
structure Ext (loc:Nat→Option Value) (w:World) (loc' : Nat→Option Value) (w' : World):Prop where
 kp:Kp (Dm (fun _=>False) loc) w w'
 fresh : ∀ b,Dm (fun _=>False) loc' b→Dm (fun _=>False) loc b∨w.heap.size≤b
theorem Ext.refl (loc:Nat→Option Value) (w:World):Ext loc w loc w:=⟨Kp.refl _ _,fun _ h => .inl h⟩
theorem Ext.trans {l1 l2 l3:Nat→Option Value} {a b c:World} (h:Ext l1 a l2 b) (k:Ext l2 b l3 c):Ext l1 a l3 c :=
 ⟨h.kp.trans k.kp h.fresh,fun x hx=>(k.fresh x hx).elim (h.fresh x) (fun h2 => .inr (Nat.le_trans h.kp.size h2))⟩
theorem Ext.of_below {loc:Nat→Option Value} {w w' : World} (h:Blw w.heap.size w w'):Ext loc w loc w':=⟨.of_below h,fun _ h => .inl h⟩
theorem OR.mono {N N' : Nat} {D D' : Nat→Prop} {loc loc' : Nat→Option Value} {w w' : World} {u:Value} {o:AO} (h:OR N D loc w u o) (hN:N≤N') (hk:Kp D w w') (hD : ∀ k,k<w.heap.size→D' k→D k)
  (hl : ∀ t u,t<N→loc' t=some u→loc t=some u) (hb : ∀ b,zP u=some b→w'.heap[b]? = w.heap[b]?):OR N' D' loc' w' u o:=by
 cases o with
 | map pin P k n f =>
  obtain ⟨b,D,rfl,⟨es,ck,h1,h2⟩,h3⟩:=h
  exact ⟨b,D,rfl,⟨es,ck,(hb b rfl).trans h1,h2⟩,h3⟩
 | amap P k n f q =>
  obtain ⟨b,DD,g,rfl,⟨es,ck,h1,h2⟩,h3,h4,h5⟩:=h
  exact ⟨b,DD,g,rfl,⟨es,ck,(hb b rfl).trans h1,h2⟩,h3,fun kl=>⟨fun x hx=>let ⟨v,k1,k2⟩:=(h4 kl).1 x hx;⟨v,k1,k2.mono hN hk hD hl⟩,(h4 kl).2⟩,h5.mono (hb b rfl)⟩
 | arow e cs =>
  obtain ⟨flat,h1,h3,h4⟩:=h
  refine ⟨flat,z0x h1 fun g hg=>hb g ?_,fun j x hx=>?_,h4⟩
  ·cases u <;> simp [Value.ownBlock] at hg
   rename_i ad _ _
   cases ad <;> simp at hg
   simp [zP,hg]
  ·obtain ⟨v,h5,h6⟩:=h3 j x hx
   exact ⟨v,h5,h6.mono hN hk hD hl⟩
 | raw v ob =>
  obtain ⟨b,rfl,h1,h2⟩:=h
  exact ⟨b,rfl,h1,(hb b h1).trans h2⟩
 | lrec l sp fr =>
  obtain ⟨rfl,tmps,h1,h2,h3⟩:=h
  exact ⟨rfl,tmps,(hb l rfl).trans h1,h2,fun t=>(h3 t).mono hN hk hD hl⟩
 | boxP pin ty cs =>
  obtain ⟨b,arr,rfl,h1,h2,h3,h4⟩:=h
  exact ⟨b,arr,rfl,(hb b rfl).trans h1,h2,fun j x hx=>(h3 j x hx).mono hN hk hD hl,h4⟩
 | row e n rows =>
  obtain ⟨flat,h1,h2,h3,h4⟩:=h
  refine ⟨flat,z0x h1 fun g hg=>hb g ?_,h2,fun k r j x hr hx=>?_,h4⟩
  ·cases u <;> simp [Value.ownBlock] at hg
   rename_i ad _ _
   cases ad <;> simp at hg
   simp [zP,hg]
  ·obtain ⟨v,h5,h6⟩:=h3 k r j x hr hx
   exact ⟨v,h5,h6.mono hk hD⟩
theorem OR.z0G {N:Nat} {D:Nat→Prop} {loc:Nat→Option Value} {w:World} {u:Value} {o:AO} (h:OR N D loc w u o) {b:Nat} (hb:zP u=some b):b<w.heap.size:=by
 cases o with
 | map pin P k n f =>
  obtain ⟨b',D,rfl,⟨es,ck,h1,h2⟩,h3⟩:=h
  cases hb
  exact (Array.getElem?_eq_some_iff.1 h1).1
 | amap P k n f q =>
  obtain ⟨b',DD,g,rfl,⟨es,ck,h1,h2⟩,h3⟩:=h
  cases hb
  exact (Array.getElem?_eq_some_iff.1 h1).1
 | arow e cs =>
  obtain ⟨flat,h1,_⟩:=h
  refine (h1.lt b ?_).2
  rcases h1.2 with ⟨rfl,_⟩|⟨g,c,cur,rfl,_⟩
  ·cases hb
  ·cases hb;rfl
 | raw v ob =>
  obtain ⟨b',rfl,h1,h2⟩:=h
  rw [h1] at hb
  cases hb
  exact (Array.getElem?_eq_some_iff.1 h2).1
 | lrec l sp fr =>
  obtain ⟨rfl,tmps,h1,_⟩:=h
  cases hb
  exact (Array.getElem?_eq_some_iff.1 h1).1
 | boxP pin ty cs =>
  obtain ⟨b',arr,rfl,h1,_⟩:=h
  cases hb
  exact (Array.getElem?_eq_some_iff.1 h1).1
 | row e n rows =>
  obtain ⟨flat,h1,_⟩:=h
  refine (h1.lt b ?_).2
  rcases h1.2 with ⟨rfl,_⟩|⟨g,c,cur,rfl,_⟩
  ·cases hb
  ·cases hb;rfl
theorem HRel.z1G {L:Nat→Prop} {N:Nat} {hp:Hp} {loc:Nat→Option Value} {w:World} (h:HRel L N hp loc w) {t:Nat} {u:Value} (hu:loc t=some u) : ∃ o,hp.lookup t=some o∧OR N (Dm L loc) loc w u o:=by
 cases ho:hp.lookup t with
 | none=>rw [h.dead t ho] at hu;cases hu
 | some o =>
  obtain ⟨_,u',h1,h2⟩:=h.at' t o ho
  rw [hu] at h1
  cases h1
  exact ⟨o,rfl,h2⟩
theorem HRel.z8s {L:Nat→Prop} {N:Nat} {hp:Hp} {loc:Nat→Option Value} {w:World} (h:HRel L N hp loc w) {b:Nat} (hb:Dm L loc b):b<w.heap.size:=by
 rcases hb with hb|⟨t,u,h1,h2⟩
 ·exact h.inL b hb
 ·obtain ⟨o,_,ho⟩:=h.z1G h1
  exact ho.z0G h2
theorem HRel.below {L:Nat→Prop} {N:Nat} {hp:Hp} {loc:Nat→Option Value} {w w' : World} (h:HRel L N hp loc w) (hb:Blw w.heap.size w w'):HRel L N hp loc w' :=
 ⟨fun t o ho=>by
  obtain ⟨h1,u,h2,h3⟩:=h.at' t o ho
  exact ⟨h1,u,h2,h3.mono (Nat.le_refl _) (.of_below hb) (fun _ _ h=>h) (fun _ _ _ h=>h) (fun b hb'=>hb.block b (h3.z0G hb'))⟩,
 h.dead,h.apart,fun b hL=>Nat.lt_of_lt_of_le (h.inL b hL) hb.size,h.notL⟩
theorem AR.blw {N:Nat} {D:Nat→Prop} {loc:Nat→Option Value} {w w' : World} {x:AV} {v:Value} (h:AR N D loc w x v) (hb:Blw w.heap.size w w'):AR N D loc w' x v :=
 h.mono (Nat.le_refl _) (.of_below hb) (fun _ _ h=>h) (fun _ _ _ h=>h)
theorem Rel.below {X:Nat→Prop} {L:Lim} {s:ASt} {loc:Nat→Option Value} {a:Act} {w w' : World} (h:Rel X L s loc a w) (hb:Blw w.heap.size w w'):Rel X L s loc a w' :=
 ⟨h.defers,h.size,fun t ht=>(h.fr t ht).blw hb,h.hp.below hb⟩
theorem ASt.get_put (s:ASt) (d t:Nat) (x:AV):(s.put (some d) x).get t=if t=d then x else s.get t:=by
 simp only [ASt.get,ASt.put,List.lookup_cons]
 by_cases h:t=d
 ·subst h;simp
 ·have:(t==d)=false:=by simpa using h
  simp [this,h]
theorem Rel.put {X:Nat→Prop} {L:Lim} {s:ASt} {loc:Nat→Option Value} {a:Act} {w:World} (h:Rel X L s loc a w) {d:Nat} (hd:d<s.n) {x:AV} {v:Value} (hx:AR s.N (Dm L loc) loc w x v):Rel (fun t=>t=d∨X t) L (s.put (some d) x) loc (a.put (some d) v) w :=
 ⟨h.defers,(size_put _ _ _).trans h.size,fun t ht=>by
  rw [ASt.get_put,z1B a d t v (by rw [h.size];exact hd)]
  by_cases e:t=d
  ·rw [if_pos e,if_pos e];exact hx
  ·rw [if_neg e,if_neg e];exact h.fr t (ht.resolve_left e),h.hp⟩
theorem Rel.put' {L:Lim} {s:ASt} {loc:Nat→Option Value} {a:Act} {w:World} (h:Rel All L s loc a w) {d:Option Nat} (hd : ∀ t,d=some t→t<s.n) {x:AV} {v:Value} (hx:AR s.N (Dm L loc) loc w x v):Rel All L (s.put d x) loc (a.put d v) w:=by
 cases d with
 | none=>exact h
 | some d =>
  have:=h.put (hd d rfl) hx
  exact ⟨this.defers,this.size,fun t _=>this.fr t (.inr trivial),this.hp⟩
theorem z6P (N:Nat) (D:Nat→Prop) (loc:Nat→Option Value) (w:World) (v:Value):AR N D loc w (cv v) v:=by
 unfold cv
 split
 ·rename_i h;exact .p _ _ (.val v h)
 ·cases v <;> try exact .zA _
  rename_i vs hno
  dsimp only
  split
  ·rename_i h
   have h':=Array.all_eq_true_iff_forall_mem.1 h
   refine .agg _ vs (by simp) (fun j x hx=>?_) (fun j hj=>?_)
   ·simp only [List.getElem?_map,Option.map_eq_some_iff] at hx
    obtain ⟨u,hu,rfl⟩:=hx
    have hu' : vs[j]? = some u:=by simpa using hu
    rw [Array.getD_eq_getD_getElem?,hu']
    exact .p _ _ (.val u (h' u (Array.mem_of_getElem? hu')))
   ·rw [Array.getD_eq_getD_getElem?,Array.getElem?_eq_getElem hj]
    exact h' _ (Array.getElem_mem hj)
  ·exact .zA _
theorem Rel.ev {X:Nat→Prop} {L:Lim} {s:ASt} {loc:Nat→Option Value} {a:Act} {w:World} (h:Rel X L s loc a w) (x:Operand) (hx : ∀ t,x = .tmp t→X t):AR s.N (Dm L loc) loc w (s.ev x) (a.eval x):=by
 cases x with
 | tmp t=>exact h.fr t (hx t rfl)
 | const v=>exact z6P _ _ _ _ v
 | global g=>exact .p _ _ (.val _ rfl)
 | func f=>exact .fn _ [] #[] rfl (fun j x hx=>by cases hx)
def mark (D:Nat):Deferred := { target := .collected D,args := #[] }
structure LX (L:Lim) (w:World) (L' : Lim) (w' : World):Prop where
 ds : ∃ new:List Nat,L'.ds=new.map mark++L.ds∧new.Nodup ∧ ∀ D ∈ new,w.heap.size≤D∧L' D∧w'.heap[D]? = some (.deferred (some []))
 sub : ∀ b,L b→L' b
 new : ∀ b,L' b→L b∨w.heap.size≤b
theorem LX.refl (L:Lim) (w w' : World):LX L w L w':=⟨⟨[],by simp,List.nodup_nil,fun D h=>by cases h⟩,fun _ h=>h,fun _ h => .inl h⟩
theorem LX.trans {L L1 L2:Lim} {w w1 w2:World} {l1 l2:Nat→Option Value} (h:LX L w L1 w1) (k:LX L1 w1 L2 w2) (hx:Ext l1 w1 l2 w2) (hn : ∀ t u b,l1 t=some u→zP u=some b → ¬ L1 b) (hs:w.heap.size≤w1.heap.size):LX L w L2 w2:=by
 obtain ⟨n1,e1,d1,h1⟩:=h.ds
 obtain ⟨n2,e2,d2,h2⟩:=k.ds
 refine ⟨⟨n2++n1,by rw [e2,e1,List.map_append,List.append_assoc],List.nodup_append.2 ⟨d2,d1,fun a ha b hb e=>?_⟩,fun D hD=>?_⟩,fun b hb=>k.sub b (h.sub b hb),fun b hb=>(k.new b hb).elim (h.new b) (fun h => .inr (by omega))⟩
 ·subst e
  have:=(h2 a ha).1
  have:=(Array.getElem?_eq_some_iff.1 (h1 a hb).2.2).1
  omega
 ·rcases List.mem_append.1 hD with hD|hD
  ·obtain ⟨g1,g2,g3⟩:=h2 D hD
   exact ⟨by omega,g2,g3⟩
  ·obtain ⟨g1,g2,g3⟩:=h1 D hD
   refine ⟨g1,k.sub D g2,(hx.kp.block D (Array.getElem?_eq_some_iff.1 g3).1 ?_).trans g3⟩
   rintro (h|⟨t,u,e3,e4⟩)
   ·exact h
   ·exact hn t u D e3 e4 g2
def z10 (L:Lim) (loc:Nat→Option Value) (w:World) (Q:Exit→ASt→Prop) (e:Exit) (a' : Act) (w' : World):Prop := ∃ s' loc',Q e s' ∧ (∃ L',Rel All L' s' loc' a' w' ∧ LX L w L' w')∧Ext loc w loc' w'
theorem z10.of {L:Lim} {loc loc' : Nat→Option Value} {w:World} {Q:Exit→ASt→Prop} {e:Exit} {a' : Act} {w' : World} {s' : ASt} (h:Q e s') (hr:Rel All L s' loc' a' w') (hx:Ext loc w loc' w'):z10 L loc w Q e a' w':=⟨s',loc',h,⟨L,hr,.refl _ _ _⟩,hx⟩
def T (F:Fence) (P:Program) (c:Code) (Q:Exit→ASt→Prop) (s:ASt):Prop := ∀ L loc a w,Rel All L s loc a w→c.wpIn F 0 P (z10 L loc w Q) a w
class FOk (F:Fence):Prop where
 h:F=Fence.wide ∨ ∃ l,F=Fence.wide.inRound l
instance:FOk Fence.wide:=⟨.inl rfl⟩
instance (l:Nat):FOk (Fence.wide.inRound l):=⟨.inr ⟨l,rfl⟩⟩
theorem FOk.fn {F:Fence} [k:FOk F] (f:FuncId):F.fn f:=by rcases k.h with rfl|⟨l,rfl⟩ <;> trivial
theorem FOk.depth {F:Fence} [k:FOk F] : F.depth=none:=by rcases k.h with rfl|⟨l,rfl⟩ <;> rfl
theorem FOk.calls {F:Fence} [k:FOk F] {n:Nat} {P:Program} {f:FuncId} {args:Array Value} {w:World} {R:Ending→World→Prop} (h:Calls P f args w R):CallsIn F n P f args w R:=by
 rcases k.h with rfl|⟨l,rfl⟩
 ·exact callsIn_wide.2 h
 ·exact (callsIn_wide (n:=n).2 h:CallsIn Fence.wide n P f args w R)
theorem FOk.rows {F:Fence} [k:FOk F] {n:Nat} {P:Program} {row:String} {args:Array Value} {w:World} {R:Value→World→Prop} (h:Rows P row args w R):RowsIn F n P row args w R:=fun c cs _=>by
 obtain ⟨v,w',r,s⟩:=h c cs
 refine ⟨v,w',r,?_⟩
 rcases k.h with rfl|⟨l,rfl⟩
 ·exact stepsIn_wide.2 s
 ·exact (stepsIn_wide.2 s:StepsIn (Machine.fenced P Fence.wide) P _ _)
def z4p (o:Oper):Bool:=match o.op with
 | .defer _=>false
 | _=>true
theorem z5G {F:Fence} [FOk F] {P:Program} {o:Oper} {a:Act} {w:World} {K:Act→World→Prop} {Q:Exit→Act→World→Prop} (hd:z4p o=true) (h:o.wp P a w K Q):o.wpIn F 0 P a w K Q:=by
 refine ⟨fun _ _=>FOk.fn _,?_⟩
 rw [Oper.semAt_eq F.round a.eval o (fun c e=>by simp [z4p,e] at hd)]
 unfold Oper.wp at h
 generalize (execOp a.eval o).run P w=r at *
 have hdp:(F.depth.isSome=true → 1≤0):=by rw [FOk.depth (F:=F)];intro h;cases h
 cases r with
 | ok n w' =>
  cases n <;> simp only [Oper.upon,Oper.uponIn] at h ⊢
  all_goals first
   | exact h
   | exact ⟨hdp,FOk.calls h⟩
   | exact ⟨hdp,FOk.rows h⟩
 | halt x w'=>cases x <;> exact h
theorem z6r {F:Fence} [FOk F] {P:Program} {ops:Array Oper} {Q:Exit→Act→World→Prop} (hQ : ∀ a w,¬ Q .outgrown a w) : ∀ (l:List Oper) (a:Act) (w:World),(∀ o ∈ l,z4p o=true)→wpList P ops Q l a w→wpListIn F 0 P ops Q l a w
 | [],a,w,_,h=>h
 | o :: r,a,w,hd,h=>by
  unfold wpList at h
  unfold wpListIn
  have hr : ∀ o ∈ r,z4p o=true:=fun x hx=>hd x (List.mem_cons.2 (.inr hx))
  split
  ·rename_i hw
   rw [if_pos hw] at h
   rcases h with h|⟨_,a',w',h⟩
   ·exact z5G (hd o (List.mem_cons.2 (.inl rfl))) (Oper.wp_mono (fun a w k=>z6r hQ r a w hr k) h)
   ·exact absurd h (hQ _ _)
  ·rename_i hw
   rw [if_neg hw] at h
   exact ⟨fun _ _=>FOk.fn _,z6r hQ r _ w hr h⟩
theorem z5s {F:Fence} [FOk F] {P:Program} {md:Region.Mode} {ops:Array Oper} {Q:Exit→Act→World→Prop} (hQ : ∀ a w,¬ Q .outgrown a w) (hd : ∀ o ∈ ops.toList,z4p o=true) : ∀ (n:Nat) (listed:Array Bool) (a:Act) (w:World),wpAny P md ops Q n listed a w→wpAnyIn F 0 P md ops Q n listed a w
 | 0,_,_,_,h=>h
 | n+1,listed,a,w,h=>⟨h.1,fun i hi=>by
  have h1:=h.2 i hi
  unfold wpOp at h1
  unfold wpOpIn
  cases ho:ops[i]? with
  | none=>rw [ho] at h1;exact z5s hQ hd n _ _ _ h1
  | some o =>
   rw [ho] at h1
   simp only at h1 ⊢
   split
   ·rename_i hw
    rw [if_pos hw] at h1
    rcases h1 with h1|⟨_,a',w',h1⟩
    ·exact z5G (hd o (List.mem_of_getElem? (by simpa using ho))) (Oper.wp_mono (fun a w k=>z5s hQ hd n _ a w k) h1)
    ·exact absurd h1 (hQ _ _)
   ·rename_i hw
    rw [if_neg hw] at h1
    exact ⟨fun _ _=>FOk.fn _,z5s hQ hd n _ _ _ h1⟩⟩
def TL (P:Program) (ops:Array Oper) (Q:Exit→ASt→Prop) (l:List Oper) (s:ASt):Prop := ∀ L loc a w,Rel All L s loc a w→wpList P ops (z10 L loc w Q) l a w
theorem z10.ext {L:Lim} {l1 l2:Nat→Option Value} {w1 w2:World} {Q:Exit→ASt→Prop} (h:Ext l1 w1 l2 w2) {e:Exit} {a:Act} {w:World} (k:z10 L l2 w2 Q e a w):z10 L l1 w1 Q e a w :=
 let ⟨s',loc',h1,⟨L',h2,h4⟩,h3⟩:=k;⟨s',loc',h1,⟨L',h2,⟨let ⟨n,g1,g2,g3⟩:=h4.ds;⟨n,g1,g2,fun D hD=>let ⟨g4,g5⟩:=g3 D hD;⟨Nat.le_trans h.kp.size g4,g5⟩⟩,h4.sub,fun b hb=>(h4.new b hb).imp id (Nat.le_trans h.kp.size)⟩⟩,h.trans h3⟩
theorem z10.go {L L1:Lim} {l l1:Nat→Option Value} {w w1:World} {Q:Exit→ASt→Prop} {s1:ASt} {a1:Act} (hr:Rel All L1 s1 l1 a1 w1) (hl:LX L w L1 w1) (hx:Ext l w l1 w1) {e:Exit} {a:Act} {w2:World} (k:z10 L1 l1 w1 Q e a w2):z10 L l w Q e a w2 :=
 let ⟨s',loc',h1,⟨L',h2,h4⟩,h3⟩:=k;⟨s',loc',h1,⟨L',h2,hl.trans h4 h3 hr.hp.notL hx.kp.size⟩,hx.trans h3⟩
theorem LetsOut.mono {Q Q' : Exit→Act→World→Prop} (h : ∀ e a w,Q e a w→Q' e a w):LetsOut Q→LetsOut Q':=fun ⟨a,w,k⟩=>⟨a,w,h _ _ _ k⟩
theorem z2D {P:Program} {o:Oper} {a:Act} {w:World} {K K' : Act→World→Prop} {Q Q' : Exit→Act→World→Prop} (hK : ∀ a w,K a w→K' a w) (h : ∀ e a w,Q e a w→Q' e a w) (hh:o.wp P a w K Q):o.wp P a w K' Q':=by
 unfold Oper.wp at *
 generalize (execOp a.eval o).run P w=r at *
 cases r with
 | ok n w' =>
  cases n <;> simp only [Oper.upon] at hh ⊢ <;>
   first
    | exact hK _ _ hh
    | exact Calls.mono hh (fun e w'' he=>by cases e <;> first|exact hK _ _ he|exact h _ _ _ he|exact LetsOut.mono h he)
    | exact Rows.mono hh (fun _ _ he=>hK _ _ he)
 | halt x w'=>cases x <;> simp only [Oper.upon] at hh ⊢ <;> exact h _ _ _ hh
theorem z0s {P:Program} {ops:Array Oper} {Q Q' : Exit→Act→World→Prop} (h : ∀ e a w,Q e a w→Q' e a w) : ∀ (l:List Oper) (a:Act) (w:World),wpList P ops Q l a w→wpList P ops Q' l a w
 | [],a,w,k=>h _ _ _ k
 | o :: l,a,w,k=>by
  unfold wpList at k ⊢
  split
  ·rename_i hw
   rw [if_pos hw] at k
   exact k.imp (z2D (z0s h l) h) (fun ⟨k1,k2⟩=>⟨k1,LetsOut.mono h k2⟩)
  ·rename_i hw
   rw [if_neg hw] at k
   exact z0s h l _ _ k
def zb (K:ASt→Prop) (Q:Exit→ASt→Prop):Exit→ASt→Prop
 | .normal,s=>K s
 | e,s=>Q e s
def za (id:Nat) (Q:Exit→ASt→Prop):Exit→ASt→Prop
 | .exit id',s=>if id' = id then Q .normal s else Q (.exit id') s
 | e,s=>Q e s
section
variable {F:Fence} {P:Program} {Q:Exit→ASt→Prop} {s:ASt}
theorem T.seq {x y:Code} (h:T F P x (zb (T F P y Q) Q) s):T F P (.seq x y) Q s:=fun L loc a w hr=>by
 refine wpIn_seq (wpIn_mono (h L loc a w hr) fun e a' w' ⟨s',loc',h1,h2,h3⟩=>?_)
 cases e with
 | normal =>
  obtain ⟨L1,h2,hl⟩:=h2
  exact wpIn_mono (h1 L1 loc' a' w' h2) fun e a2 w2 k=>k.go h2 hl h3
 | _=>exact ⟨s',loc',h1,h2,h3⟩
theorem T.block {id:Nat} {c:Code} (h:T F P c (za id Q) s):T F P (.block id c) Q s:=fun L loc a w hr=>by
 refine wpIn_block (wpIn_mono (h L loc a w hr) fun e a' w' ⟨s',loc',h1,h2,h3⟩=>?_)
 cases e with
 | exit id' =>
  simp only [Exit.inBlock,za] at h1 ⊢
  split
  ·rename_i hid;rw [if_pos hid] at h1;exact ⟨s',loc',h1,h2,h3⟩
  ·rename_i hid;rw [if_neg hid] at h1;exact ⟨s',loc',h1,h2,h3⟩
 | _=>exact ⟨s',loc',h1,h2,h3⟩
theorem T.skip (h:Q .normal s):T F P .skip Q s:=fun _ loc _ _ hr=>wpIn_skip (.of h hr (Ext.refl _ _))
theorem T.exit {id:Nat} (h:Q (.exit id) s):T F P (.exit id) Q s:=fun _ loc _ _ hr=>wpIn_exit (.of h hr (Ext.refl _ _))
theorem T.ret (h:Q .ret s):T F P .ret Q s:=fun _ loc _ _ hr=>wpIn_ret (.of h hr (Ext.refl _ _))
theorem AR.bool {N:Nat} {D:Nat→Prop} {loc:Nat→Option Value} {w:World} {b:Bool} {v:Value} (h:AR N D loc w (.p (.val (.bool b))) v):v = .bool b:=by
 cases h with|p _ _ h=>cases h;rfl
theorem AR.val {N:Nat} {D:Nat→Prop} {loc:Nat→Option Value} {w:World} {u v:Value} (h:AR N D loc w (.p (.val u)) v):v=u:=by
 cases h with|p _ _ h=>cases h;rfl
theorem T.cond {c:Operand} {x y:Code} {b:Bool} (hc:s.ev c = .p (.val (.bool b))) (h:b=true→T F P x Q s) (h' : b=false→T F P y Q s):T F P (.cond c x y) Q s:=fun L loc a w hr=>by
 have:=hr.ev c (fun _ _=>trivial)
 rw [hc] at this
 exact wpIn_cond_split this.bool (fun e=>h e L loc a w hr) (fun e=>h' e L loc a w hr)
theorem T.mono {c:Code} {Q' : Exit→ASt→Prop} (h:T F P c Q s) (hq : ∀ e s,Q e s→Q' e s):T F P c Q' s:=fun L loc a w hr =>
 wpIn_mono (h L loc a w hr) fun _ _ _ ⟨s',loc',h1,h2,h3⟩=>⟨s',loc',hq _ _ h1,h2,h3⟩
def zk (s s' : ASt):Prop := ∀ L loc a w,Rel All L s loc a w → ∃ loc',Rel All L s' loc' a w∧Ext loc w loc' w
theorem zk.refl (s:ASt):zk s s:=fun _ loc _ _ h=>⟨loc,h,Ext.refl _ _⟩
theorem zk.trans {s1 s2 s3:ASt} (h:zk s1 s2) (k:zk s2 s3):zk s1 s3:=fun L loc a w hr =>
 let ⟨l2,h1,h2⟩:=h L loc a w hr;let ⟨l3,h3,h4⟩:=k L l2 a w h1;⟨l3,h3,h2.trans h4⟩
theorem T.weak {c:Code} {s' : ASt} (hw:zk s s') (h:T F P c Q s'):T F P c Q s:=fun L loc a w hr =>
 let ⟨loc',h1,h2⟩:=hw L loc a w hr;wpIn_mono (h L loc' a w h1) fun _ _ _ k=>k.ext h2
theorem TL.weak {ops:Array Oper} {l:List Oper} {s' : ASt} (hw:zk s s') (h:TL P ops Q l s'):TL P ops Q l s:=fun L loc a w hr =>
 let ⟨loc',h1,h2⟩:=hw L loc a w hr;z0s (fun _ _ _ k=>k.ext h2) l a w (h L loc' a w h1)
theorem T.loop {ι:Type} {c:Code} (S : ι→ASt) (μ : ι→Nat) (i₀ : ι) (h0:zk s (S i₀)) (hr : ∀ i,T F P c (zb (fun s' => ∃ j,zk s' (S j) ∧ μ j<μ i) Q) (S i)):T F P (.loop c) Q s:=fun L loc a w hrel=>by
 intro b k cs hro hb hro2
 have key : ∀ n i,μ i=n → ∀ L1 l1 a1 w1,Rel All L1 (S i) l1 a1 w1→LX L w L1 w1→Ext loc w l1 w1 →
   ∃ e a' w',z10 L loc w Q e a' w' ∧ ArrivesIn (Machine.fenced P F) P (lone (b.atR a1 (.code c :: .inLoop c :: k)) cs w1) b k cs e a' w':=by
  intro n
  induction n using Nat.strongRecOn with
  | _ n ih =>
   intro i hn L1 l1 a1 w1 h1 hlx hx
   obtain ⟨e,a2,w2,⟨s2,l2,hq,⟨L2,hr2,hl2⟩,hx2⟩,harr⟩:=hr i L1 l1 a1 w1 h1 b (.inLoop c :: k) cs hro hb hro2
   have hl02:=hlx.trans hl2 hx2 h1.hp.notL hx.kp.size
   cases e with
   | normal =>
    obtain ⟨j,hw,hlt⟩:=hq
    obtain ⟨l3,hr3,hx3⟩:=hw L2 l2 a2 w2 hr2
    obtain ⟨e3,a3,w3,hq3,harr3⟩:=ih (μ j) (hn ▸ hlt) j rfl L2 l3 a2 w2 hr3 hl02 ((hx.trans hx2).trans hx3)
    exact ⟨e3,a3,w3,hq3,.of_steps (StepsIn.trans harr (.one (fenced_calm hb hro2 rfl) stepR_inLoop)) harr3⟩
   | exit id=>exact ⟨_,a2,w2,⟨s2,l2,hq,⟨L2,hr2,hl02⟩,hx.trans hx2⟩,.pass (x := .inLoop c) rfl (fun _ _ => .inl (by simp)) harr⟩
   | goto l=>exact ⟨_,a2,w2,⟨s2,l2,hq,⟨L2,hr2,hl02⟩,hx.trans hx2⟩,.pass (x := .inLoop c) rfl (fun _ _ => .inl (by simp)) harr⟩
   | ret=>exact ⟨_,a2,w2,⟨s2,l2,hq,⟨L2,hr2,hl02⟩,hx.trans hx2⟩,.pass (x := .inLoop c) rfl (fun _ _ => .inl (by simp)) harr⟩
   | panic ch=>exact ⟨_,a2,w2,⟨s2,l2,hq,⟨L2,hr2,hl02⟩,hx.trans hx2⟩,.pass (x := .inLoop c) rfl (fun _ _ => .inl (by simp)) harr⟩
   | outgrown=>exact ⟨_,a2,w2,⟨s2,l2,hq,⟨L2,hr2,hl02⟩,hx.trans hx2⟩,.pass (x := .inLoop c) rfl (fun _ _ => .inl (by simp)) harr⟩
 obtain ⟨l0,hr0,hx0⟩:=h0 L loc a w hrel
 obtain ⟨e,a',w',hq,harr⟩:=key _ i₀ rfl L l0 a w hr0 (.refl _ _ _) hx0
 exact ⟨e,a',w',hq,.of_steps (.one (fenced_calm hb hro2 rfl) stepR_loop) harr⟩
end
abbrev looks (ops:Array Oper) (o:Oper):Nat→Prop:=fun t=>t ∈ o.looksAt ops
theorem zD {ops:Array Oper} {o:Oper} {x:Operand} (h:x ∈ o.op.operands.toList) : ∀ t,x = .tmp t→looks ops o t:=fun t e=>by
 subst e
 exact List.mem_append.2 (.inl (List.mem_filterMap.2 ⟨_,h,rfl⟩))
def zX (P:Program) (ops:Array Oper) (o:Oper) (s:ASt) (av:AV):Prop :=
 ∀ L loc a w,Rel (looks ops o) L s loc a w →
  (∃ v w',(execOp a.eval o).run P w = .ok (.value v) w' ∧ Blw w.heap.size w w' ∧ AR s.N (Dm L loc) loc w' av v) ∨
  (∃ f args,(execOp a.eval o).run P w = .ok (.enter f args) w∧Calls P f args w fun e w' => ∃ v,e = .returned v∧Blw w.heap.size w w' ∧ AR s.N (Dm L loc) loc w' av v)
theorem zX.pure {P:Program} {ops:Array Oper} {o:Oper} {s:ASt} {av:AV} (h : ∀ L loc a w,Rel (looks ops o) L s loc a w → ∃ v,(execOp a.eval o).run P w = .ok (.value v) w∧AR s.N (Dm L loc) loc w av v):zX P ops o s av:=fun L loc a w hr =>
 let ⟨v,h1,h2⟩:=h L loc a w hr;.inl ⟨v,w,h1,Blw.refl _ _,h2⟩
section
variable {P:Program} {ops:Array Oper} {o:Oper} {s:ASt}
theorem op_move (x:Operand) (h:o.op = .move x∨o.op = .assign x):zX P ops o s (s.ev x) := .pure fun L loc a w hr=>by
 refine ⟨a.eval x,?_,hr.ev x (zD ?_)⟩
 ·rcases h with h|h <;> simp [execOp,h]
 ·rcases h with h|h <;> simp [h,Op.operands]
theorem op_pick (c x y:Operand) (b:Bool) (h:o.op = .pick c x y) (hc:s.ev c = .p (.val (.bool b))):zX P ops o s (if b then s.ev x else s.ev y) := .pure fun L loc a w hr=>by
 have h1:=hr.ev c (zD (by simp [h,Op.operands]))
 rw [hc] at h1
 cases b with
 | true=>exact ⟨a.eval x,by simp [execOp,h,h1.bool,asBool],hr.ev x (zD (by simp [h,Op.operands]))⟩
 | false=>exact ⟨a.eval y,by simp [execOp,h,h1.bool,asBool],hr.ev y (zD (by simp [h,Op.operands]))⟩
def tySz (P:Program) (t:TypeId):Option Nat:=(P.info? t).map (·.size)
def zS (P:Program) (t:TypeId):Option Bool:=(P.underlying t).map fun d=>match d with | .struct _ | .array _ _=>true|_=>false
def z2x (P:Program) (t:TypeId) (cs:List AV) (off:Nat):Option AV :=
 match zS P t,tySz P t with
 | some true,some n=>if off+n≤cs.length then some (.agg ((cs.drop off).take n)) else none
 | some false,some _=>cs[off]?
 | _,_=>none
theorem z1O {N:Nat} {D:Nat→Prop} {loc:Nat→Option Value} {w:World} {t:TypeId} {cs:List AV} {b o off:Nat} {av:AV} (g:Nat→Value)
  (hc : ∀ j x,cs[j]? = some x→w.cell? ⟨b,o+j,none⟩=some (g j)∧AR N D loc w x (g j)∧(g j).oneCell' = true) (h:z2x P t cs off=some av) :
  ∃ v,(Instr.loadAt t (.pointer (some ⟨b,o+off,none⟩))).run P w = .ok v w∧AR N D loc w av v:=by
 unfold z2x at h
 cases h1:zS P t with
 | none=>rw [h1] at h;cases h
 | some r =>
  cases h2:tySz P t with
  | none=>rw [h1,h2] at h;cases r <;> cases h
  | some n =>
   rw [h1,h2] at h
   unfold zS at h1
   obtain ⟨d,hu,hd⟩:=Option.map_eq_some_iff.1 h1
   cases r with
   | true =>
    simp only at h
    split at h
    ·rename_i hl
     simp only [Option.some.injEq] at h
     subst h
     have hd' : d.isRow=true:=by cases d <;> simp_all
     have hgl:((List.range n).map fun j=>g (off+j)).length=n:=by simp
     refine ⟨_,run_loadAt_mid w b (o+off) t ((List.range n).map fun j=>g (off+j)) d (fun j v hv=>?_) hu hd' (by rw [hgl];exact h2),.agg _ _ (by simp;omega) (fun j x hx=>?_) (fun j hj=>?_)⟩
     ·simp only [List.getElem?_map,Option.map_eq_some_iff] at hv
      obtain ⟨j',hj',rfl⟩:=hv
      obtain ⟨hlt,rfl⟩:=List.getElem?_eq_some_iff.1 hj'
      simp only [List.length_range] at hlt
      simp only [List.getElem_range]
      have:=(hc (off+j) cs[off+j] (List.getElem?_eq_getElem (by omega))).1
      rw [← this,Nat.add_assoc]
     ·obtain ⟨hlt,hx2⟩:=List.getElem?_eq_some_iff.1 hx
      simp only [List.length_take,List.length_drop] at hlt
      have hx' : cs[off+j]? = some x:=by rw [← hx,List.getElem?_take,if_pos (by omega),List.getElem?_drop]
      have e:(List.map (fun j=>g (off+j)) (List.range n)).toArray.getD j undef=g (off+j):=by
       rw [Array.getD_eq_getD_getElem?]
       simp [List.getElem?_range (show j<n by omega)]
      rw [e]
      exact (hc _ x hx').2.1
     ·have hj' : j<n:=by simpa using hj
      have e:(List.map (fun j=>g (off+j)) (List.range n)).toArray.getD j undef=g (off+j):=by
       rw [Array.getD_eq_getD_getElem?]
       simp [List.getElem?_range hj']
      rw [e]
      exact (hc (off+j) cs[off+j] (List.getElem?_eq_getElem (by omega))).2.2
    ·cases h
   | false =>
    simp only at h
    obtain ⟨h3,h4,_⟩:=hc off av h
    refine ⟨g off,?_,h4⟩
    have hagg:(isAgg t).run P w = .ok false w:=by
     unfold isAgg
     rw [Sem.run_bind,run_underlying hu w]
     cases d <;> simp_all
    simp [Instr.loadAt,Instr.sureAddr,loadVar,Sem.run_bind,hagg,h3]
def z4U (P:Program) (s:ASt) (t:TypeId):AV→Option AV
 | .elt row off=>z2x P t (row.map .p) off
 | .ptr tag off=>match s.hp.lookup tag with
  | some (.boxP _ _ cs)=>z2x P t cs off
  | _=>none
 | .rptr tag n k off=>match s.hp.lookup tag with
  | some (.row _ m rows)=>if m=n then match rows[k]? with
   | some r=>z2x P t (r.map .p) off
   | none=>none
   else none
  | some (.arow _ cs)=>if n=1∧off=0∧k<cs.length then z2x P t cs k else none
  | _=>none
 | _=>none
theorem op_load (t:TypeId) (x:Operand) (av:AV) (h:o.op = .load t x) (hl:z4U P s t (s.ev x)=some av):zX P ops o s av := .pure fun L loc a w hr=>by
 have h1:=hr.ev x (zD (by simp [h,Op.operands]))
 have he : ∀ v,(Instr.loadAt t (a.eval x)).run P w = .ok v w→(execOp a.eval o).run P w = .ok (.value v) w:=fun v hv=>by simp [execOp,h,hv]
 generalize a.eval x=u at *
 generalize s.ev x=y at *
 cases h1 with
 | elt row off b oo f hb hnD hc hp =>
  obtain ⟨v,h2,h3⟩:=z1O (P:=P) (N:=s.N) (D:=Dm L loc) (loc:=loc) (cs:=row.map .p) f (fun j y hy=>by
   simp only [List.getElem?_map,Option.map_eq_some_iff] at hy
   obtain ⟨z,hz,rfl⟩:=hy
   exact ⟨hc j z hz,.p _ _ (hp j z hz),(hp j z hz).one⟩) hl
  exact ⟨v,he v h2,h3⟩
 | ptr tag off v ht h1 hv =>
  simp only [z4U] at hl
  cases hlk:s.hp.lookup tag with
  | none=>rw [hlk] at hl;cases hl
  | some ob =>
   rw [hlk] at hl
   obtain ⟨_,u',hu',hor⟩:=hr.hp.at' tag ob hlk
   cases ob with
   | map _ _ _ _ _=>cases hl
   | raw _ _=>cases hl
   | lrec _ _ _=>cases hl
   | amap _ _ _ _ _=>cases hl
   | arow _ _=>cases hl
   | row e n rows=>cases hl
   | boxP pin ty cs =>
    obtain ⟨b,arr,rfl,hh,hsz,hcs,h1c,_⟩:=hor
    obtain rfl:=hv b hu'
    obtain ⟨v,h2,h3⟩:=z1O (P:=P) (N:=s.N) (D:=Dm L loc) (loc:=loc) (b:=b) (o := 0) (cs:=cs) (fun j=>arr.getD j undef) (fun j y hy=>by
     obtain ⟨hlt,_⟩:=List.getElem?_eq_some_iff.1 hy
     refine ⟨?_,hcs j y hy,h1c j (by omega)⟩
     rw [z15 hh,Array.getD_eq_getD_getElem?,Nat.zero_add,Array.getElem?_eq_getElem (by omega)];rfl) hl
    rw [Nat.zero_add] at h2
    exact ⟨v,he v h2,h3⟩
 | rptr tag n k off v ht h1 hv =>
  simp only [z4U] at hl
  cases hlk:s.hp.lookup tag with
  | none=>rw [hlk] at hl;cases hl
  | some ob =>
   rw [hlk] at hl
   obtain ⟨_,u',hu',hor⟩:=hr.hp.at' tag ob hlk
   cases ob with
   | map _ _ _ _ _=>cases hl
   | raw _ _=>cases hl
   | lrec _ _ _=>cases hl
   | amap _ _ _ _ _=>cases hl
   | arow e cs =>
    simp only at hl
    split at hl
    ·rename_i hc
     obtain ⟨rfl,rfl,hk⟩:=hc
     obtain ⟨flat,hown,hfl,h1c⟩:=hor
     rcases hown.2 with ⟨_,h0⟩|⟨g,cap,cur,rfl,_,_,_⟩
     ·omega
     ·obtain rfl:=hv g _ _ hu'
      obtain ⟨v,h2,h3⟩:=z1O (P:=P) (N:=s.N) (D:=Dm L loc) (loc:=loc) (b:=g) (o := 0) (cs:=cs) (fun j=>flat.getD j undef) (fun j y hy=>by
       obtain ⟨v,h5,h6⟩:=hfl j y hy
       have h7:=z4F hown h5
       rw [List.getD_eq_getElem?_getD,h5,Nat.zero_add]
       exact ⟨h7,h6,h1c v (List.mem_of_getElem? h5)⟩) hl
      rw [Nat.zero_add] at h2
      exact ⟨v,he v (by simpa using h2),h3⟩
    ·cases hl
   | boxP pin ty cs=>cases hl
   | row e m rows =>
    simp only at hl
    split at hl
    ·rename_i hmn
     subst hmn
     split at hl
     ·rename_i r hk
      obtain ⟨flat,hown,hn,hfl,h1c⟩:=hor
      have hlen:=(List.getElem?_eq_some_iff.1 hk).1
      rcases hown.2 with ⟨_,h0⟩|⟨g,cap,cur,rfl,_,_,_⟩
      ·omega
      ·obtain rfl:=hv g _ _ hu'
       obtain ⟨v,h2,h3⟩:=z1O (P:=P) (N:=s.N) (D:=Dm L loc) (loc:=loc) (b:=g) (o:=k*m) (cs:=r.map .p) (fun j=>flat.getD (k*m+j) undef) (fun j y hy=>by
        simp only [List.getElem?_map,Option.map_eq_some_iff] at hy
        obtain ⟨z,hz,rfl⟩:=hy
        obtain ⟨v,h5,h6⟩:=hfl k r j z hk hz
        rw [List.getD_eq_getElem?_getD,h5]
        exact ⟨z4F hown h5,.p _ _ h6,h6.one⟩) hl
       exact ⟨v,he v h2,h3⟩
     ·cases hl
    ·cases hl
 | _=>cases hl
def zJ (P:Program) (t:TypeId) (f:Nat):Option Nat:=match P.underlying t with
 | some (.struct fs)=>match fs[f]? with
  | some fd=>match tySz P fd.type with
   | some (_+1)=>some fd.offset
   | _=>none
  | none=>none
 | _=>none
def z4s (P:Program) (s:ASt) (t:TypeId) (f:Nat):AV→Option AV
 | .elt row off=>(zJ P t f).map fun k => .elt row (off+k)
 | .ptr tag off=>match s.hp.lookup tag with
  | some (.boxP _ _ _)=>(zJ P t f).map fun k => .ptr tag (off+k)
  | _=>none
 | .rptr tag n k off=>match s.hp.lookup tag with
  | some (.row _ _ (_ :: _))=>(zJ P t f).map fun j => .rptr tag n k (off+j)
  | _=>none
 | _=>none
theorem z3o {t:TypeId} {f k:Nat} (h:zJ P t f=some k) (b o:Nat) (w:World):(Instr.fieldAt t (.pointer (some ⟨b,o,none⟩)) f).run P w = .ok (.pointer (some ⟨b,o+k,none⟩)) w:=by
 unfold zJ at h
 split at h
 ·rename_i fs hu
  split at h
  ·rename_i fd hf
   split at h
   ·rename_i n hs
    cases h
    obtain ⟨i,hi,hn⟩:=Option.map_eq_some_iff.1 hs
    simp [Instr.fieldAt,run_underlying hu,hf,Instr.sureAddr,fieldPlace,sizeOf,typeInfo,hi,hn,Addr.add_mid]
   ·cases h
  ·cases h
 ·cases h
theorem op_field (t:TypeId) (x:Operand) (f:Nat) (av:AV) (h:o.op = .fieldAddr t x f) (hl:z4s P s t f (s.ev x)=some av):zX P ops o s av := .pure fun L loc a w hr=>by
 have h1:=hr.ev x (zD (by simp [h,Op.operands]))
 have he : ∀ v,(Instr.fieldAt t (a.eval x) f).run P w = .ok v w→(execOp a.eval o).run P w = .ok (.value v) w:=fun v hv=>by simp [execOp,h,hv]
 generalize a.eval x=u at *
 generalize s.ev x=y at *
 cases h1 with
 | elt row off b oo fn hb hnD hc hp =>
  obtain ⟨k,hk,rfl⟩:=Option.map_eq_some_iff.1 hl
  exact ⟨_,he _ (z3o hk _ _ w),by rw [Nat.add_assoc];exact .elt row (off+k) b oo fn hb hnD hc hp⟩
 | ptr tag off v ht h1 hv =>
  simp only [z4s] at hl
  cases hlk:s.hp.lookup tag with
  | none=>rw [hlk] at hl;cases hl
  | some ob =>
   rw [hlk] at hl
   obtain ⟨_,u',hu',hor⟩:=hr.hp.at' tag ob hlk
   cases ob with
   | map _ _ _ _ _=>cases hl
   | raw _ _=>cases hl
   | lrec _ _ _=>cases hl
   | amap _ _ _ _ _=>cases hl
   | arow _ _=>cases hl
   | row e n rows=>cases hl
   | boxP pin ty cs =>
    obtain ⟨b,arr,rfl,_⟩:=hor
    obtain rfl:=hv b hu'
    obtain ⟨k,hk,rfl⟩:=Option.map_eq_some_iff.1 hl
    exact ⟨_,he _ (z3o hk _ _ w),.ptr tag (off+k) _ ht rfl fun b' hb'=>by rw [hu'] at hb';cases hb';rfl⟩
 | rptr tag n k off v ht h1 hv =>
  simp only [z4s] at hl
  cases hlk:s.hp.lookup tag with
  | none=>rw [hlk] at hl;cases hl
  | some ob =>
   rw [hlk] at hl
   obtain ⟨_,u',hu',hor⟩:=hr.hp.at' tag ob hlk
   cases ob with
   | map _ _ _ _ _=>cases hl
   | raw _ _=>cases hl
   | lrec _ _ _=>cases hl
   | amap _ _ _ _ _=>cases hl
   | arow _ _=>cases hl
   | boxP pin ty cs=>cases hl
   | row e m rows =>
    cases rows with
    | nil=>cases hl
    | cons r0 rows =>
     obtain ⟨flat,hown,_⟩:=hor
     rcases hown.2 with ⟨_,h0⟩|⟨g,cap,cur,rfl,_⟩
     ·cases h0
     ·obtain rfl:=hv g _ _ hu'
      obtain ⟨j,hj,rfl⟩:=Option.map_eq_some_iff.1 hl
      exact ⟨_,he _ (z3o hj _ _ w),.rptr tag n k (off+j) _ ht rfl fun b' l c hb'=>by rw [hu'] at hb';cases hb';rw [Nat.add_assoc]⟩
 | _=>cases hl
def z05 (P:Program) (t:TypeId):Option Nat:=match P.underlying t with
 | some (.slice e)=>tySz P e
 | _=>none
def z88 (P:Program) (t:TypeId):Option (Nat × Nat):=match P.underlying t with
 | some (.array n e)=>(tySz P e).map fun k=>(n,k)
 | _=>none
def z19 (P:Program) (s:ASt) (t:TypeId) (i:Int):AV→Option AV
 | .p (.seq n rows)=>if z05 P t=some n ∧ 0≤i then match rows[i.toNat]? with
  | some r=>some (.elt r 0)
  | none=>none
  else none
 | .p (.val (.pointer (some ⟨g,0,none⟩)))=>match s.hp.lookup (1000000+g) with
  | some (.boxP (some p) _ _)=>match z88 P t with
   | some (n,k)=>if p=g ∧ 0≤i∧i.toNat<n then some (.ptr (1000000+g) (i.toNat*k)) else none
   | none=>none
  | _=>none
 | .own tag=>match s.hp.lookup tag with
  | some (.row _ n rows)=>if z05 P t=some n ∧ 0≤i∧i.toNat<rows.length then some (.rptr tag n i.toNat 0) else none
  | some (.arow _ cs)=>if z05 P t=some 1 ∧ 0≤i∧i.toNat<cs.length then some (.rptr tag 1 i.toNat 0) else none
  | _=>none
 | .suf tag n m=>match s.hp.lookup tag with
  | some (.row _ n' rows)=>if n' = n∧z05 P t=some n ∧ 0≤i∧m+i.toNat<rows.length then some (.rptr tag n (m+i.toNat) 0) else none
  | _=>none
 | .elt row off=>match z88 P t with
  | some (n,k)=>if 0≤i∧i.toNat<n then some (.elt row (off+i.toNat*k)) else none
  | none=>none
 | .ptr tag off=>match s.hp.lookup tag with
  | some (.boxP _ _ _)=>match z88 P t with
   | some (n,k)=>if 0≤i∧i.toNat<n then some (.ptr tag (off+i.toNat*k)) else none
   | none=>none
  | _=>none
 | _=>none
theorem z4V {t:TypeId} {n m:Nat} (h:z88 P t=some (n,m)) {k:IntKind} {i:Int} (h0 : 0≤i) (hl:i.toNat<n) (b o:Nat) (w:World) :
  (Instr.indexAt t (.pointer (some ⟨b,o,none⟩)) (.int k i)).run P w = .ok (.pointer (some ⟨b,o+i.toNat*m,none⟩)) w:=by
 unfold z88 at h
 split at h
 ·rename_i n' e hu
  obtain ⟨q,hq,hn⟩:=Option.map_eq_some_iff.1 h
  cases hn
  obtain ⟨ti,hi,hn⟩:=Option.map_eq_some_iff.1 hq
  have hlt:i<(n:Int):=by omega
  simp [Instr.indexAt,asIntOf,run_underlying hu,Instr.sureAddr,h0,hlt,sizeOf,typeInfo,hi,hn,Addr.add_mid]
 ·cases h
theorem run_indexAt {t:TypeId} {n:Nat} (h:z05 P t=some n) {k:IntKind} {i:Int} (h0 : 0≤i) {l cap b off:Nat} (hl:i.toNat<l) (w:World) :
  (Instr.indexAt t (.slice (some ⟨b,off,none⟩) l cap) (.int k i)).run P w = .ok (.pointer (some ⟨b,off+i.toNat*n,none⟩)) w:=by
 unfold z05 at h
 split at h
 ·rename_i e hu
  obtain ⟨ti,hi,hn⟩:=Option.map_eq_some_iff.1 h
  have hlt:i<(l:Int):=by omega
  simp [Instr.indexAt,asIntOf,run_underlying hu,h0,hlt,sizeOf,typeInfo,hi,hn,Addr.add_mid]
 ·cases h
theorem op_index (t:TypeId) (x i:Operand) (k:IntKind) (iv:Int) (av:AV) (h:o.op = .indexAddr t x i) (hi:s.ev i = .p (.val (.int k iv))) (hl:z19 P s t iv (s.ev x)=some av):zX P ops o s av := .pure fun L loc a w hr=>by
 have h1:=hr.ev x (zD (by simp [h,Op.operands]))
 have h2:=hr.ev i (zD (by simp [h,Op.operands]))
 rw [hi] at h2
 have he : ∀ v,(Instr.indexAt t (a.eval x) (.int k iv)).run P w = .ok v w→(execOp a.eval o).run P w = .ok (.value v) w:=fun v hv=>by simp [execOp,h,h2.val,hv]
 generalize a.eval x=u at *
 generalize s.ev x=y at *
 cases h1 with
 | p y v hp =>
  cases hp with
  | val v _ =>
   unfold z19 at hl
   split at hl <;> first|(rename_i hq;cases hq;done)|skip
   all_goals first|(cases hl;done)|skip
   rename_i g hq
   injection hq with hq
   injection hq with hq
   subst hq
   split at hl
   ·rename_i p ty cs hlk
    split at hl
    ·rename_i n m ha
     split at hl
     ·rename_i hcond
      obtain ⟨rfl,c1,c2⟩:=hcond
      cases hl
      obtain ⟨htN,u',hu',hor⟩:=hr.hp.at' _ _ hlk
      obtain ⟨b',arr,rfl,_,_,_,_,hpin⟩:=hor
      obtain rfl:=hpin p rfl
      refine ⟨_,he _ (z4V ha c1 c2 _ _ w),.ptr _ _ _ htN rfl fun b2 hb2=>?_⟩
      rw [hu'] at hb2;cases hb2;rw [Nat.zero_add]
     ·cases hl
    ·cases hl
   ·cases hl
  | nil n a cap h0 =>
   simp only [z19] at hl
   split at hl
   ·simp at hl
   ·cases hl
  | seq n b off cap rows f hb hnD hcap hmax hn hc hr' =>
   simp only [z19] at hl
   split at hl
   ·rename_i hcond
    split at hl
    ·rename_i r hrow
     cases hl
     have hlt:=(List.getElem?_eq_some_iff.1 hrow).1
     refine ⟨_,he _ (run_indexAt hcond.1 hcond.2 hlt w),?_⟩
     have:=AR.elt (N:=s.N) (D:=Dm L loc) (loc:=loc) (w:=w) r 0 b (off+iv.toNat*n) (fun j=>f iv.toNat j) hb hnD (fun j x hx=>hc _ r j x hrow hx) (fun j x hx=>hr' _ r j x hrow hx)
     exact this
    ·cases hl
   ·cases hl
 | own tag v ht h1 hv =>
  simp only [z19] at hl
  cases hlk:s.hp.lookup tag with
  | none=>rw [hlk] at hl;cases hl
  | some ob =>
   rw [hlk] at hl
   obtain ⟨_,u',hu',hor⟩:=hr.hp.at' tag ob hlk
   cases ob with
   | map _ _ _ _ _=>cases hl
   | raw _ _=>cases hl
   | lrec _ _ _=>cases hl
   | amap _ _ _ _ _=>cases hl
   | arow e cs =>
    simp only at hl
    split at hl
    ·rename_i hcond
     cases hl
     obtain ⟨flat,hown,_⟩:=hor
     obtain rfl:=hv _ hu'
     rcases hown.2 with ⟨_,h0⟩|⟨g,cap,cur,rfl,_⟩
     ·omega
     ·refine ⟨_,he _ (run_indexAt hcond.1 hcond.2.1 hcond.2.2 w),.rptr tag 1 _ 0 _ ht rfl fun b' l c hb'=>?_⟩
      rw [hu'] at hb';cases hb';simp
    ·cases hl
   | boxP pin ty cs=>cases hl
   | row e n rows =>
    simp only at hl
    split at hl
    ·rename_i hcond
     cases hl
     obtain ⟨flat,hown,_⟩:=hor
     obtain rfl:=hv _ hu'
     rcases hown.2 with ⟨_,h0⟩|⟨g,cap,cur,rfl,_⟩
     ·omega
     ·refine ⟨_,he _ (run_indexAt hcond.1 hcond.2.1 hcond.2.2 w),.rptr tag n _ 0 _ ht rfl fun b' l c hb'=>?_⟩
      rw [hu'] at hb';cases hb';simp
    ·cases hl
 | suf tag n m v ht h1 hv =>
  simp only [z19] at hl
  cases hlk:s.hp.lookup tag with
  | none=>rw [hlk] at hl;cases hl
  | some ob =>
   rw [hlk] at hl
   obtain ⟨_,u',hu',hor⟩:=hr.hp.at' tag ob hlk
   cases ob with
   | map _ _ _ _ _=>cases hl
   | raw _ _=>cases hl
   | lrec _ _ _=>cases hl
   | amap _ _ _ _ _=>cases hl
   | arow _ _=>cases hl
   | boxP pin ty cs=>cases hl
   | row e n' rows =>
    simp only at hl
    split at hl
    ·rename_i hcond
     obtain ⟨c0,c1,c2,c3⟩:=hcond
     subst c0
     cases hl
     obtain ⟨flat,hown,_⟩:=hor
     rcases hown.2 with ⟨_,h0⟩|⟨g,cap,cur,rfl,_,_,hcp,_⟩
     ·omega
     ·obtain ⟨oo,rfl,hoo⟩:=hv _ _ _ hu'
      obtain rfl:=hoo (by omega)
      refine ⟨_,he _ (run_indexAt c1 c2 (by omega) w),.rptr tag n' _ 0 _ ht rfl fun b' l c hb'=>?_⟩
      rw [hu'] at hb';cases hb'
      rw [Nat.add_mul,Nat.add_zero]
    ·cases hl
 | elt row off b oo fn hb hnD hc hp =>
  simp only [z19] at hl
  split at hl
  ·rename_i n m ha
   split at hl
   ·rename_i hcond
    cases hl
    exact ⟨_,he _ (z4V ha hcond.1 hcond.2 _ _ w),by rw [Nat.add_assoc];exact .elt row (off+iv.toNat*m) b oo fn hb hnD hc hp⟩
   ·cases hl
  ·cases hl
 | ptr tag off v ht h1 hv =>
  simp only [z19] at hl
  cases hlk:s.hp.lookup tag with
  | none=>rw [hlk] at hl;cases hl
  | some ob =>
   rw [hlk] at hl
   obtain ⟨_,u',hu',hor⟩:=hr.hp.at' tag ob hlk
   cases ob with
   | map _ _ _ _ _=>cases hl
   | raw _ _=>cases hl
   | lrec _ _ _=>cases hl
   | amap _ _ _ _ _=>cases hl
   | arow _ _=>cases hl
   | row e n rows=>cases hl
   | boxP pin ty cs =>
    obtain ⟨b,arr,rfl,_⟩:=hor
    obtain rfl:=hv b hu'
    simp only at hl
    split at hl
    ·rename_i n m ha
     split at hl
     ·rename_i hcond
      cases hl
      exact ⟨_,he _ (z4V ha hcond.1 hcond.2 _ _ w),.ptr tag (off+iv.toNat*m) _ ht rfl fun b' hb'=>by rw [hu'] at hb';cases hb';rfl⟩
     ·cases hl
    ·cases hl
 | _=>cases hl
end
section
variable {P:Program} {ops:Array Oper} {o:Oper} {s:ASt}
theorem AR.zV {N:Nat} {D:Nat→Prop} {loc:Nat→Option Value} {w:World} (v:Value) (h:v.oneCell' = true):AR N D loc w (.p (.val v)) v := .p _ _ (.val v h)
abbrev AV.int (n:Int):AV := .p (.val (.int .i64 n))
abbrev AV.bool (b:Bool):AV := .p (.val (.bool b))
def z3m (op:BinOp) (k:IntKind) (a b:Int):Option Value:=match op with
 | .add=>some (.int k (k.wrap (a+b)))
 | .sub=>some (.int k (k.wrap (a-b)))
 | .mul=>some (.int k (k.wrap (a*b)))
 | .quo=>if b=0 then none else some (.int k (k.wrap (a.tdiv b)))
 | .rem=>if b=0 then none else some (.int k (a.tmod b))
 | .eql=>some (.bool (a==b))
 | .neq=>some (.bool (a != b))
 | .lss=>some (.bool (decide (a<b)))
 | .leq=>some (.bool (decide (a≤b)))
 | .gtr=>some (.bool (decide (b<a)))
 | .geq=>some (.bool (decide (b≤a)))
 | _=>none
def scTy (P:Program) (t:TypeId):Option Nat:=match P.underlying t with
 | some (.int _)=>some 0
 | some .bool=>some 1
 | some .string=>some 2
 | _=>none
def scEq (c:Nat) (u v:Value):Option Bool:=match c,u,v with
 | 0,.int k a,.int k' b=>if k=k' then some (a==b) else none
 | 1,.bool a,.bool b=>some (a==b)
 | 2,.string a,.string b=>some (a.toList==b.toList)
 | _,_,_=>none
def eqTy (P : Program) (t : TypeId) : Option (List (Nat × Nat)) := match P.underlying t with
  | some (.struct fs) => if P.stoodInHeld t = false ∧ P.eqGuardType P.depth t = false then fs.toList.mapM fun f => if f.name = "_" then none else (scTy P f.type).map fun c => (f.offset, c) else none
  | _ => none
def aeqF (xs ys:List AV):List (Nat × Nat)→Option Bool
 | []=>some true
 | (off,c) :: r=>match xs[off]?,ys[off]? with
  | some (.p (.val u)),some (.p (.val v))=>match scEq c u v,aeqF xs ys r with
   | some b,some b'=>some (b&&b')
   | _,_=>none
  | _,_=>none
def abin (P:Program) (op:BinOp) (t:TypeId):AV→AV→Option AV
 | .p (.val (.int k a)),.p (.val (.int k' b))=>if k=k' then (z3m op k a b).map fun v => .p (.val v) else none
 | .p (.val (.bool a)),.p (.val (.bool b))=>match op,P.underlying t with
  | .eql,some .bool=>some (.bool (a==b))
  | .neq,some .bool=>some (.bool (!(a==b)))
  | _,_=>none
 | .p (.val (.string a)),.p (.val (.string b))=>match op with
  | .eql=>some (.bool (a.toList==b.toList))
  | .neq=>some (.bool (!(a.toList==b.toList)))
  | .add=>if a.size+b.size≤9223372036854775807 then some (.p (.val (.string (a++b)))) else none
  | _=>none
 | .agg xs,.agg ys=>match op,eqTy P t with
  | .eql,some l=>(aeqF xs ys l).map fun b => .bool b
  | .neq,some l=>(aeqF xs ys l).map fun b => .bool (!b)
  | _,_=>none
 | _,_=>none
theorem run_abinI {op:BinOp} {k:IntKind} {a b:Int} {v:Value} (h:z3m op k a b=some v) (t:TypeId) (w:World):(binOp op t (.int k a) (.int k b)).run P w = .ok v w∧v.oneCell' = true:=by
 unfold z3m at h
 split at h
 all_goals first
  | (cases h;done)
  | (cases h;exact ⟨by simp [binOp,Op.intArith,Op.intCmp],rfl⟩)
  | (split at h <;> first|(cases h;done)|(cases h;rename_i hb;exact ⟨by simp [binOp,Op.intDiv,hb],rfl⟩))
theorem z5m (op:BinOp) (t:TypeId) (x y:Operand) (k k' : IntKind) (a b:Int) (w:World):(eqGuard op t x y (.int k a) (.int k' b)).run P w = .ok () w:=by
 cases op <;> simp [eqGuard]
theorem z2p (op:BinOp) (t:TypeId) (x y:Operand) (a b:Bool) (w:World):(eqGuard op t x y (.bool a) (.bool b)).run P w = .ok () w:=by
 cases op <;> simp [eqGuard]
theorem z1r (op:BinOp) (t:TypeId) (x y:Operand) (a b:ByteArray) (w:World):(eqGuard op t x y (.string a) (.string b)).run P w = .ok () w:=by
 cases op <;> simp [eqGuard]
theorem z4z {w:World} {t:TypeId} {c:Nat} (h:scTy P t=some c) (cs:Array Value) (off:Nat) (v:Value) (hv:cs[off]? = some v):(part t cs off).run P w = .ok v w:=by
 unfold scTy at h
 have : ∃ d,P.underlying t=some d∧((∃ k,d = .int k)∨d = .bool∨d = .string):=by
  split at h <;> first|exact ⟨_,‹_›,.inl ⟨_,rfl⟩⟩|exact ⟨_,‹_›,.inr (.inl rfl)⟩|exact ⟨_,‹_›,.inr (.inr rfl)⟩|cases h
 obtain ⟨d,hd,hk⟩:=this
 have hag:(isAgg t).run P w = .ok false w:=by
  unfold isAgg
  rw [Sem.run_bind,run_underlying hd w]
  rcases hk with ⟨k,rfl⟩|rfl|rfl <;> simp
 simp [part,Sem.run_bind,hag,hv]
theorem z96 {w:World} {t:TypeId} {c:Nat} (h:scTy P t=some c) {u v:Value} {b:Bool} (hb:scEq c u v=some b) (d:Nat):(Op.equalIn (d+1) t u v).run P w = .ok b w:=by
 unfold scTy at h
 split at h <;> cases h <;> rename_i hu <;> unfold scEq at hb <;> split at hb <;> simp_all
 ·obtain ⟨rfl,rfl⟩:=hb;exact run_equalIn_int w d t _ _ _ _ hu
 ·subst hb;exact run_equalIn_bool w d t _ _ hu
 ·subst hb;exact run_equalIn_string w d t _ _ hu
theorem run_eqF {N : Nat} {D : Nat → Prop} {loc : Nat → Option Value} {w : World} (d : Nat) {xs ys : List AV} {us vs : Array Value} (hx : ∀ j x, xs[j]? = some x → AR N D loc w x (us.getD j undef)) (hy : ∀ j x, ys[j]? = some x → AR N D loc w x (vs.getD j undef)) (hxl : us.size = xs.length) (hyl : vs.size = ys.length) :
    ∀ (fs : List Field) (l : List (Nat × Nat)) (b : Bool), (fs.mapM fun f => if f.name = "_" then none else (scTy P f.type).map fun c => (f.offset, c)) = some l → aeqF xs ys l = some b → (Op.eqFields (d + 1) us vs fs).run P w = .ok b w := by
  intro fs
  induction fs with
  | nil =>
    intro l b h hb
    simp only [List.mapM_nil, Option.pure_def, Option.some.injEq] at h
    subst h
    simp only [aeqF, Option.some.injEq] at hb
    subst hb
    simp [Op.eqFields]
  | cons f fs ih =>
    intro l b h hb
    simp only [List.mapM_cons, Option.bind_eq_bind, Option.bind_eq_some_iff, Option.pure_def, Option.some.injEq] at h
    obtain ⟨⟨off, c⟩, h1, l', h2, rfl⟩ := h
    split at h1
    · cases h1
    · rename_i hn
      obtain ⟨c', hc, h3⟩ := Option.map_eq_some_iff.1 h1
      cases h3
      simp only [aeqF] at hb
      split at hb
      · rename_i u v hu hv
        split at hb
        · rename_i b1 b2 hs1 hs2
          cases hb
          have e1 := hx _ _ hu
          have e2 := hy _ _ hv
          have hul := (List.getElem?_eq_some_iff.1 hu).1
          have hvl := (List.getElem?_eq_some_iff.1 hv).1
          have g1 : us[f.offset]? = some u := by rw [← e1.val, Array.getD_eq_getD_getElem?, Array.getElem?_eq_getElem (by omega)]; rfl
          have g2 : vs[f.offset]? = some v := by rw [← e2.val, Array.getD_eq_getD_getElem?, Array.getElem?_eq_getElem (by omega)]; rfl
          have hih := ih l' b2 h2 hs2
          cases b1 with
          | false => simp [Op.eqFields, hn, Sem.run_bind, z4z hc us _ u g1, z4z hc vs _ v g2, z96 hc hs1 d]
          | true => simp [Op.eqFields, hn, Sem.run_bind, z4z hc us _ u g1, z4z hc vs _ v g2, z96 hc hs1 d, hih]
        · cases hb
      · cases hb
theorem op_bin (op:BinOp) (t t' : TypeId) (x y:Operand) (av:AV) (h:o.op = .binOp op t x y t') (hl:abin P op t (s.ev x) (s.ev y)=some av):zX P ops o s av := .pure fun L loc a w hr=>by
 have h1:=hr.ev x (zD (by simp [h,Op.operands]))
 have h2:=hr.ev y (zD (by simp [h,Op.operands]))
 have he : ∀ v,(eqGuard op t x y (a.eval x) (a.eval y)).run P w = .ok () w→(binOp op t (a.eval x) (a.eval y)).run P w = .ok v w→(execOp a.eval o).run P w = .ok (.value v) w:=fun v hg hv=>by simp [execOp,h,hg,hv]
 generalize a.eval x=u at *
 generalize a.eval y=v at *
 generalize s.ev x=ax at *
 generalize s.ev y=ay at *
 unfold abin at hl
 split at hl
 ·split at hl
  ·rename_i hk
   subst hk
   obtain ⟨r,hr1,rfl⟩:=Option.map_eq_some_iff.1 hl
   obtain rfl:=h1.val
   obtain rfl:=h2.val
   have:=run_abinI (P:=P) hr1 t w
   exact ⟨r,he _ (z5m _ _ _ _ _ _ _ _ w) this.1,.zV _ this.2⟩
  ·cases hl
 ·obtain rfl:=h1.val
  obtain rfl:=h2.val
  split at hl
  ·rename_i hu
   cases hl
   exact ⟨_,he _ (z2p _ _ _ _ _ _ w) (by simp [binOp,run_equal_bool w _ _ _ hu]),.zV _ rfl⟩
  ·rename_i hu
   cases hl
   exact ⟨_,he _ (z2p _ _ _ _ _ _ w) (by simp [binOp,run_equal_bool w _ _ _ hu]),.zV _ rfl⟩
  ·cases hl
 ·obtain rfl:=h1.val
  obtain rfl:=h2.val
  split at hl
  ·cases hl;exact ⟨_,he _ (z1r _ _ _ _ _ _ w) (by simp [binOp,Op.stringOp]),.zV _ rfl⟩
  ·cases hl;exact ⟨_,he _ (z1r _ _ _ _ _ _ w) (by simp [binOp,Op.stringOp]),.zV _ rfl⟩
  ·split at hl
   ·rename_i hsz
    cases hl
    refine ⟨_,he _ (z1r _ _ _ _ _ _ w) ?_,.zV _ rfl⟩
    have : ∀ n:Nat,n≤9223372036854775807 → ¬ ((n:Nat):Int) > IntKind.i64.max:=fun n hn=>by
     have e:IntKind.i64.max=9223372036854775807:=by decide
     rw [e];omega
    simp only [binOp,Op.stringOp]
    rw [if_neg (this _ hsz)]
    rfl
   ·cases hl
  ·cases hl
 ·rename_i xs ys
  cases h1 with
  | agg _ us hul hua _ =>
  cases h2 with
  | agg _ vs hvl hva _ =>
  have key : ∀ l b,eqTy P t=some l→aeqF xs ys l=some b→(Op.equalIn 10000 t (.agg us) (.agg vs)).run P w = .ok b w∧P.eqGuardType P.depth t=false:=by
   intro l b hl hb
   unfold eqTy at hl
   split at hl
   ·rename_i fs hu
    split at hl
    ·rename_i hc
     refine ⟨?_,hc.2⟩
     have hfo:P.fieldsOf t=fs:=by simp [Program.fieldsOf,hu]
     rw [run_equalIn_struct w 9999 t us vs (by rw [hfo];exact hu) hc.1,hfo]
     exact run_eqF 9998 hua hva hul hvl fs.toList l b hl hb
    ·cases hl
   ·cases hl
  split at hl
  ·rename_i l he2
   obtain ⟨b,hb,rfl⟩:=Option.map_eq_some_iff.1 hl
   obtain ⟨k1,k2⟩:=key l b he2 hb
   exact ⟨_,he _ (run_eqGuard_agg w _ _ _ _ _ _ k2) (by rw [run_eql_struct,k1];rfl),.zV _ rfl⟩
  ·rename_i l he2
   obtain ⟨b,hb,rfl⟩:=Option.map_eq_some_iff.1 hl
   obtain ⟨k1,k2⟩:=key l b he2 hb
   exact ⟨_,he _ (run_eqGuard_agg w _ _ _ _ _ _ k2) (by rw [run_neq_struct,k1];rfl),.zV _ rfl⟩
  ·cases hl
 ·cases hl
def aun (op:UnOp):AV→Option AV
 | .p (.val (.bool b))=>if op = .not then some (.bool !b) else none
 | .p (.val (.int k n))=>if op = .neg then some (.p (.val (.int k (k.wrap (0-n))))) else none
 | _=>none
theorem op_un (op:UnOp) (t:TypeId) (x:Operand) (av:AV) (h:o.op = .unOp op t x) (hl:aun op (s.ev x)=some av):zX P ops o s av := .pure fun L loc a w hr=>by
 have h1:=hr.ev x (zD (by simp [h,Op.operands]))
 have he : ∀ v,(Op.unary op (a.eval x)).run P w = .ok v w→(execOp a.eval o).run P w = .ok (.value v) w:=fun v hv=>by simp [execOp,h,hv]
 generalize s.ev x=ax at *
 unfold aun at hl
 split at hl
 ·split at hl
  ·rename_i hop;subst hop;cases hl;exact ⟨_,he _ (by rw [h1.val];simp [Op.unary]),.zV _ rfl⟩
  ·cases hl
 ·split at hl
  ·rename_i hop;subst hop;cases hl;exact ⟨_,he _ (by rw [h1.val];simp [Op.unary,Op.intArith]),.zV _ rfl⟩
  ·cases hl
 ·cases hl
theorem za0 (x:Operand) (i:Nat) (cs:List AV) (av:AV) (h:o.op = .extract x i) (hx:s.ev x = .tup cs) (hl:cs[i]? = some av):zX P ops o s av := .pure fun L loc a w hr=>by
 have h1:=hr.ev x (zD (by simp [h,Op.operands]))
 rw [hx] at h1
 have he : ∀ v,(Instr.extract (a.eval x) i).run P w = .ok v w→(execOp a.eval o).run P w = .ok (.value v) w:=fun v hv=>by simp [execOp,h,hv]
 generalize a.eval x=u at *
 cases h1 with
 | tup _ vs hvl hva =>
  have hlt:=(List.getElem?_eq_some_iff.1 hl).1
  have:=hva i av hl
  rw [Array.getD_eq_getD_getElem?,Array.getElem?_eq_getElem (by omega)] at this
  exact ⟨_,he (vs[i]'(by omega)) (by simp [Instr.extract,Array.getElem?_eq_getElem (show i<vs.size by omega)]),this⟩
def alen (s:ASt):AV→Option Int
 | .p (.seq _ rows)=>some rows.length
 | .p (.val (.slice none 0 0))=>some 0
 | .own tag=>match s.hp.lookup tag with
  | some (.row _ _ rows)=>some rows.length
  | some (.arow _ cs)=>some cs.length
  | _=>none
 | .suf tag n m=>match s.hp.lookup tag with
  | some (.row _ n' rows)=>if n' = n∧m≤rows.length ∧ 0<rows.length then some ((rows.length-m:Nat):Int) else none
  | _=>none
 | .cap0=>some 0
 | _=>none
theorem alen_val {s:ASt} {u:Value} {n:Int} (h:alen s (.p (.val u))=some n):u = .slice none 0 0∧n=0:=by
 cases u with
 | slice ad l c =>
  cases ad with
  | none=>cases l <;> cases c <;> simp [alen] at h;exact ⟨rfl,h.symm⟩
  | some a=>simp [alen] at h
 | _=>simp [alen] at h
def isSl (P:Program) (t:TypeId):Bool:=match P.underlying t with
 | some (.slice _)=>true
 | _=>false
theorem op_len (t:TypeId) (x:Operand) (n:Int) (h:o.op = .call { callee := .builtin .len,args := #[x],argTypes := #[t] }) (ht:isSl P t=true) (hl:alen s (s.ev x)=some n):zX P ops o s (.int n) := .pure fun L loc a w hr=>by
 have h1:=hr.ev x (zD (by simp [h,Op.operands,Call.operands]))
 have hk : ∃ ad l c,a.eval x = .slice ad l c∧(l:Int)=n:=by
  generalize a.eval x=u at *
  generalize s.ev x=ax at *
  cases h1 with
  | p y v hp =>
   cases hp with
   | val _ _ =>
    obtain ⟨rfl,rfl⟩:=alen_val hl
    exact ⟨_,_,_,rfl,rfl⟩
   | nil n a cap h0=>simp only [alen,Option.some.injEq] at hl;exact ⟨_,_,_,rfl,by simpa using hl⟩
   | seq n b off cap rows=>simp only [alen,Option.some.injEq] at hl;exact ⟨_,_,_,rfl,hl⟩
  | own tag v ht h1 hv =>
   simp only [alen] at hl
   cases hlk:s.hp.lookup tag with
   | none=>rw [hlk] at hl;simp at hl
   | some ob =>
    rw [hlk] at hl
    obtain ⟨_,u',hu',hor⟩:=hr.hp.at' tag ob hlk
    cases ob with
    | map _ _ _ _ _=>simp at hl
    | raw _ _=>simp at hl
    | lrec _ _ _=>simp at hl
    | amap _ _ _ _ _=>simp at hl
    | arow e cs =>
     simp only [Option.some.injEq] at hl
     obtain ⟨flat,hown,_⟩:=hor
     obtain rfl:=hv _ hu'
     rcases hown.2 with ⟨rfl,h0⟩|⟨g,cap,cur,rfl,_⟩
     ·exact ⟨_,_,_,rfl,by omega⟩
     ·exact ⟨_,_,_,rfl,hl⟩
    | boxP pin ty cs=>simp at hl
    | row e m rows =>
     simp only [Option.some.injEq] at hl
     obtain ⟨flat,hown,_⟩:=hor
     obtain rfl:=hv _ hu'
     rcases hown.2 with ⟨rfl,h0⟩|⟨g,cap,cur,rfl,_⟩
     ·exact ⟨_,_,_,rfl,by omega⟩
     ·exact ⟨_,_,_,rfl,hl⟩
  | suf tag n m v ht h1 hv =>
   simp only [alen] at hl
   cases hlk:s.hp.lookup tag with
   | none=>rw [hlk] at hl;simp at hl
   | some ob =>
    rw [hlk] at hl
    obtain ⟨_,u',hu',hor⟩:=hr.hp.at' tag ob hlk
    cases ob with
    | map _ _ _ _ _=>simp at hl
    | raw _ _=>simp at hl
    | lrec _ _ _=>simp at hl
    | amap _ _ _ _ _=>simp at hl
    | arow _ _=>simp at hl
    | boxP pin ty cs=>simp at hl
    | row e n' rows =>
     simp only at hl
     split at hl
     ·rename_i hcond
      simp only [Option.some.injEq] at hl
      obtain ⟨flat,hown,_⟩:=hor
      rcases hown.2 with ⟨rfl,h0⟩|⟨g,cap,cur,rfl,_⟩
      ·omega
      ·obtain ⟨oo,rfl,_⟩:=hv _ _ _ hu'
       exact ⟨_,_,_,rfl,hl⟩
     ·cases hl
  | cap0 ad _=>simp only [alen,Option.some.injEq] at hl;exact ⟨_,_,_,rfl,by simpa using hl⟩
  | _=>cases hl
 obtain ⟨ad,l,c,hx,rfl⟩:=hk
 unfold isSl at ht
 split at ht
 ·rename_i e hu
  exact ⟨.int .i64 l,by simp [execOp,h,resolve,invoke,builtin,Builtin.len_,run_underlying hu,hx,goInt],.zV _ rfl⟩
 ·cases ht
theorem z8y (fn:Fn) (caps:Array Operand) (h:o.op = .makeFunc fn #[] caps):zX P ops o s (.fn fn (caps.toList.map s.ev)) := .pure fun L loc a w hr=>by
 refine ⟨.func fn #[] (caps.map a.eval),by simp [execOp,h,Instr.makeFunc],.fn fn _ _ (by simp) fun j x hx=>?_⟩
 simp only [List.getElem?_map,Option.map_eq_some_iff] at hx
 obtain ⟨c,hc,rfl⟩:=hx
 have hc' : caps[j]? = some c:=by simpa using hc
 have:(caps.map a.eval).getD j undef=a.eval c:=by
  rw [Array.getD_eq_getD_getElem?,Array.getElem?_map,hc'];rfl
 rw [this]
 exact hr.ev c (zD (by simp [h,Op.operands];exact Array.mem_of_getElem? hc'))
theorem z3n (x:Operand) (h:o.op = .nilCheck x) (hx:(∃ r k,s.ev x = .elt r k)∨(∃ f c,s.ev x = .fn (.func f) c) ∨ ∃ t k pin ty cs,s.ev x = .ptr t k∧s.hp.lookup t=some (.boxP pin ty cs)):zX P ops o s (s.ev x) := .pure fun L loc a w hr=>by
 have h1:=hr.ev x (zD (by simp [h,Op.operands]))
 refine ⟨a.eval x,?_,h1⟩
 rcases hx with ⟨r,k,e⟩|⟨f,c,e⟩|⟨t,k,pin,ty,cs,e,hlk⟩
 ·rw [e] at h1
  generalize hu:a.eval x=u at *
  cases h1
  simp [execOp,h,hu]
 ·rw [e] at h1
  generalize hu:a.eval x=u at *
  cases h1
  simp [execOp,h,hu]
 ·rw [e] at h1
  generalize hu:a.eval x=u at *
  cases h1 with
  | ptr _ _ _ _ _ hv =>
   obtain ⟨_,u',hu',b,arr,rfl,_⟩:=hr.hp.at' t _ hlk
   obtain rfl:=hv b hu'
   simp [execOp,h,hu]
def ptTy (P:Program) (t:TypeId):Option Bool:=match P.underlying t with
 | some (.pointer e)=>if e=P.pointee t then some true else none
 | _=>none
theorem ptTy_of {P:Program} {t:TypeId} (h:ptTy P t=some true):P.underlying t=some (.pointer (P.pointee t)):=by
 unfold ptTy at h
 split at h
 ·rename_i e he
  split at h
  ·rename_i e2;rw [← e2];exact he
  ·cases h
 ·cases h
theorem z2G (op:BinOp) (t:TypeId) (x y:Operand) (a b:Option Addr) (w:World):(eqGuard op t x y (.pointer a) (.pointer b)).run P w = .ok () w:=by
 cases op <;> rfl
theorem z7D (eq:Bool) (t t' : TypeId) (x y:Operand) (tag off:Nat) (pin:Option Nat) (ty:TypeId) (cs:List AV) (h:o.op = .binOp (if eq=true then .eql else .neq) t x y t') (hx:s.ev x = .ptr tag off) (hy:s.ev y = .p (.val (.pointer none))) (hlk:s.hp.lookup tag=some (.boxP pin ty cs)) (ht:ptTy P t=some true):zX P ops o s (.bool (!eq)) := .pure fun L loc a w hr=>by
 have h1:=hr.ev x (zD (by simp [h,Op.operands]))
 have h2:=hr.ev y (zD (by simp [h,Op.operands]))
 rw [hx] at h1
 rw [hy] at h2
 have h2':=h2.val
 generalize hu:a.eval x=u at *
 cases h1 with
 | ptr _ _ _ _ _ hv =>
  obtain ⟨_,u',hu',b,arr,rfl,_⟩:=hr.hp.at' tag _ hlk
  obtain rfl:=hv b hu'
  have hpt:=ptTy_of ht
  cases eq with
  | true=>exact ⟨_,by simp [execOp,h,hu,h2',z2G,run_eql_pointer_nil w t _ hpt],.zV _ rfl⟩
  | false=>exact ⟨_,by simp [execOp,h,hu,h2',z2G,run_neq_pointer_nil w t _ hpt],.zV _ rfl⟩
theorem za5 (src dst:TypeId) (x:Operand) (k k' : IntKind) (n:Int) (h:o.op = .convert src dst x) (hs:(P.underlying src).isSome=true) (hd:P.underlying dst=some (.int k)) (hx:s.ev x = .p (.val (.int k' n))):zX P ops o s (.p (.val (.int k (k.wrap n)))) := .pure fun L loc a w hr=>by
 have h1:=hr.ev x (zD (by simp [h,Op.operands]))
 rw [hx] at h1
 obtain ⟨d,hd'⟩:=Option.isSome_iff_exists.1 hs
 exact ⟨_,by simp [execOp,h,convert,run_underlying hd',run_underlying hd,h1.val,Conv.intToInt],.zV _ rfl⟩
theorem op_lenStr (t:TypeId) (x:Operand) (b:ByteArray) (h:o.op = .call { callee := .builtin .len,args := #[x],argTypes := #[t] }) (ht:P.underlying t=some .string) (hx:s.ev x = .p (.val (.string b))):zX P ops o s (.int b.size) := .pure fun L loc a w hr=>by
 have h1:=hr.ev x (zD (by simp [h,Op.operands,Call.operands]))
 rw [hx] at h1
 have hv:=h1.val
 exact ⟨.int .i64 b.size,by simp [execOp,h,resolve,invoke,builtin,hv,run_len_string w t o.type b ht,goInt],.zV _ rfl⟩
def chrB (c:Int):ByteArray:=⟨#[UInt8.ofNat c.toNat]⟩
def z6E (P:Program) (t:TypeId):Bool:=match P.underlying t with
 | some (.slice e)=>match P.underlying e with
  | some (.int .u8)=>true
  | _=>false
 | _=>false
theorem op_convS (src dst:TypeId) (x:Operand) (n:Nat) (c:Int) (h:o.op = .convert src dst x) (hs:z6E P src=true) (hd:P.underlying dst=some .string) (hx:s.ev x = .p (.seq n [[.val (.int .u8 c)]])):zX P ops o s (.p (.val (.string (chrB c)))) := .pure fun L loc a w hr=>by
 have h1:=hr.ev x (zD (by simp [h,Op.operands]))
 rw [hx] at h1
 have hse : ∃ e,P.underlying src=some (.slice e)∧P.underlying e=some (.int .u8):=by
  unfold z6E at hs
  split at hs
  ·rename_i e he
   split at hs
   ·rename_i he2;exact ⟨e,he,he2⟩
   ·cases hs
  ·cases hs
 obtain ⟨e,hs1,hs2⟩:=hse
 generalize hu:a.eval x=u at h1
 cases h1 with
 | p _ _ hp =>
  cases hp with
  | seq _ b off cap _ f hb hnD hcap hmax hn hc hr' =>
   have hv:=(AR.p (N := 0) (loc:=fun _=>none) _ _ (hr' 0 _ 0 _ rfl rfl)).val
   have hcell:=hc 0 _ 0 _ rfl rfl
   rw [hv] at hcell
   have:=Go.run_convert_bytes_arg w src e hs1 hs2 b off 1 cap [c] rfl (fun i hi=>by
    obtain rfl:i=0:=by omega
    simpa using hcell) dst hd
   refine ⟨_,?_,.zV (.string (chrB c)) rfl⟩
   simp only [execOp,h,hu]
   simp only [List.length_cons,List.length_nil,Nat.zero_add]
   rw [show (.string (chrB c):Value) = .string (strOfNums [c]) from rfl]
   simp [this]
theorem op_max (x y:Operand) (tys:Array TypeId) (a' b' : Int) (h:o.op = .call { callee := .builtin .max,args := #[x,y],argTypes:=tys }) (hx:s.ev x = .int a') (hy:s.ev y = .int b'):zX P ops o s (.int (if a' < b' then b' else a')) := .pure fun L loc a w hr=>by
 have h1:=hr.ev x (zD (by simp [h,Op.operands,Call.operands]))
 have h2:=hr.ev y (zD (by simp [h,Op.operands,Call.operands]))
 rw [hx] at h1
 rw [hy] at h2
 refine ⟨.int .i64 (if a' < b' then b' else a'),?_,.zV _ rfl⟩
 simp [execOp,h,resolve,invoke,builtin,h1.val,h2.val,Builtin.max_,Builtin.max2]
end
def Ent (P:Program) (f:FuncId):Prop := ∀ (args:Array Value) (w:World),(callFunc f args).run P w = .ok (.enter f args) w
def ARs (N:Nat) (D:Nat→Prop) (loc:Nat→Option Value) (w:World) (xs:List AV) (vs:List Value):Prop:=vs.length=xs.length ∧ ∀ (j:Nat) x v,xs[j]? = some x→vs[j]? = some v→AR N D loc w x v
abbrev z1Z:Nat→Option Value:=fun _=>none
def zx (P:Program) (f:FuncId) (xs:List AV) (r:AV):Prop := ∀ L w vs,(∀ b,L b→b<w.heap.size)→ARs 0 L z1Z w xs vs →
 Calls P f vs.toArray w fun e w' => ∃ v,e = .returned v∧Blw w.heap.size w w' ∧ AR 0 L z1Z w' r v
def z8u (P:Program) (f:FuncId) (xs:List AV) (x:PV):Prop := ∀ L w vs,(∀ b,L b→b<w.heap.size)→ARs 0 L z1Z w xs vs →
 Calls P f vs.toArray w fun e w' => ∃ v,e = .returned v∧Blw w.heap.size w w' ∧ PR (fun b=>b<w.heap.size) w' x v
theorem AR.bare {N:Nat} {D L:Nat→Prop} {loc:Nat→Option Value} {w:World} {x:AV} {v:Value} (h:AR N D loc w x v) (hx:x.okB 0=true) (hD : ∀ b,L b→D b):AR 0 L z1Z w x v :=
 (h.low hx).mono (Nat.le_refl _) (Kp.refl _ _) (fun k _ hk=>hD k hk) (fun _ _ h=>by omega)
theorem AR.dress {N:Nat} {D:Nat→Prop} {loc:Nat→Option Value} {w:World} {x:AV} {v:Value} (h:AR 0 D z1Z w x v):AR N D loc w x v :=
 h.mono (Nat.zero_le _) (Kp.refl _ _) (fun _ _ h=>h) (fun _ _ h=>by omega)
section
variable {P:Program} {ops:Array Oper} {o:Oper} {s:ASt}
theorem op_call (f:FuncId) (args:Array Operand) (tys:Array TypeId) (r:AV) (h:o.op = .call { callee := .value (.func f),args:=args,argTypes:=tys }) (he:Ent P f) (hp:zx P f (args.toList.map s.ev) r)
  (hok:((args.toList.map s.ev).all (·.okB 0))=true):zX P ops o s r:=fun L loc a w hr=>by
 refine .inr ⟨f,args.map a.eval,?_,?_⟩
 ·have:=he (args.map a.eval) w
  simp [execOp,h,resolve,Act.eval,Deferred.ofValue,invoke,this]
 ·have:=hp (Dm L loc) w (args.toList.map a.eval) (fun b hb=>hr.hp.z8s hb) ⟨by simp,fun j x v hx hv=>by
   simp only [List.getElem?_map,Option.map_eq_some_iff] at hx hv
   obtain ⟨y,hy,rfl⟩:=hx
   obtain ⟨y',hy',rfl⟩:=hv
   rw [hy] at hy'
   cases hy'
   have hm:y ∈ o.op.operands.toList:=by
    simp only [h,Op.operands,Call.operands,Array.toList_append,List.mem_append]
    exact .inr (List.mem_of_getElem? hy)
   exact (hr.ev y (zD hm)).bare (List.all_eq_true.1 hok _ (List.mem_map_of_mem (List.mem_of_getElem? hy))) (fun _ h=>h)⟩
  have e:(args.toList.map a.eval).toArray=args.map a.eval:=by apply Array.ext';simp
  rw [e] at this
  exact this.mono fun e w' ⟨v,h1,h2,h3⟩=>⟨v,h1,h2,h3.dress⟩
def AV.view (s:ASt):AV→AV
 | .own t=>match s.hp.lookup t with
  | some (.row _ n rows) => .p (.seq n rows)
  | _ => .own t
 | x=>x
def AV.scal:AV→Bool
 | .p (.val _)=>true
 | .tup cs=>cs.all fun c=>match c with
  | .p (.val _)=>true
  | _=>false
 | _=>false
theorem AR.scal {N:Nat} {D D' : Nat→Prop} {loc loc' : Nat→Option Value} {w:World} {x:AV} {v:Value} (h:AR 0 D loc w x v) (hx:x.scal=true):AR N D' loc' w x v:=by
 cases h with
 | p y v hp=>cases hp <;> first|(exact .zV _ (by assumption))|cases hx
 | tup cs vs hl ha =>
  refine .tup cs vs hl fun j x hx'=>?_
  have h1:=List.all_eq_true.1 hx x (List.mem_of_getElem? hx')
  have h2:=ha j x hx'
  cases x <;> try cases h1
  rename_i y
  cases y <;> try cases h1
  cases h2 with
  | p _ _ hp=>cases hp;exact .zV _ (by assumption)
 | _=>cases hx
theorem OR.seq {N:Nat} {D L:Nat→Prop} {loc:Nat→Option Value} {w:World} {u:Value} {e n:Nat} {rows:List (List PV)} (h:OR N D loc w u (.row e n rows)) (hL : ∀ b,L b→D b) (hb : ∀ b,zP u=some b → ¬ L b):PR L w (.seq n rows) u:=by
 obtain ⟨flat,hown,hn,hf,h1⟩:=h
 rcases hown.2 with ⟨rfl,h0⟩|⟨g,cap,cur,rfl,_,hg,hle,hmx,hcs,htk⟩
 ·have:rows = []:=List.eq_nil_of_length_eq_zero h0
  subst this
  exact .nil n none 0 (fun _=>rfl)
 ·have hlt:=(Array.getElem?_eq_some_iff.1 hg).1
  refine .seq n g 0 cap rows (fun k j=>flat.getD (k*n+j) undef) hlt (hb g rfl) hle hmx hn (fun k r j x hk hx=>?_) (fun k r j x hk hx=>?_)
  ·obtain ⟨v,h5,h6⟩:=hf k r j x hk hx
   rw [List.getD_eq_getElem?_getD,h5,Nat.zero_add]
   exact z4F hown h5
  ·obtain ⟨v,h5,h6⟩:=hf k r j x hk hx
   rw [List.getD_eq_getElem?_getD,h5]
   exact h6.mono (Kp.refl _ _) (fun b _ h=>hL b h)
theorem op_callV (f:FuncId) (args:Array Operand) (tys:Array TypeId) (r:AV) (h:o.op = .call { callee := .value (.func f),args:=args,argTypes:=tys }) (he:Ent P f) (hp:zx P f (args.toList.map fun x=>(s.ev x).view s) r)
  (hok:((args.toList.map fun x=>(s.ev x).view s).all (·.okB 0))=true) (hs:r.scal=true):zX P ops o s r:=fun L loc a w hr=>by
 refine .inr ⟨f,args.map a.eval,?_,?_⟩
 ·have:=he (args.map a.eval) w
  simp [execOp,h,resolve,Act.eval,Deferred.ofValue,invoke,this]
 ·have:=hp L w (args.toList.map a.eval) (fun b hb=>hr.hp.inL b hb) ⟨by simp,fun j x v hx hv=>by
   simp only [List.getElem?_map,Option.map_eq_some_iff] at hx hv
   obtain ⟨y,hy,rfl⟩:=hx
   obtain ⟨y',hy',rfl⟩:=hv
   rw [hy] at hy'
   cases hy'
   have hm:y ∈ o.op.operands.toList:=by
    simp only [h,Op.operands,Call.operands,Array.toList_append,List.mem_append]
    exact .inr (List.mem_of_getElem? hy)
   have hok':=List.all_eq_true.1 hok ((s.ev y).view s) (List.mem_map.2 ⟨y,List.mem_of_getElem? hy,rfl⟩)
   have h1:=hr.ev y (zD hm)
   generalize s.ev y=ay at *
   by_cases hv : ∃ t,ay = .own t
   ·obtain ⟨t,rfl⟩:=hv
    simp only [AV.view] at hok' ⊢
    split
    ·rename_i e n rows hlk
     obtain ⟨_,u,hu,hor⟩:=hr.hp.at' t _ hlk
     generalize a.eval y=v at *
     cases h1 with
     | own _ _ _ _ hv2 =>
      obtain rfl:=hv2 u hu
      exact .p _ _ (hor.seq (fun b hb => .inl hb) (fun b hb=>hr.hp.notL t _ b hu hb))
    ·rename_i hno
     split at hok'
     ·rename_i e n rows hlk;exact absurd hlk (hno e n rows)
     ·simp [AV.okB] at hok'
   ·have e:ay.view s=ay:=by
     cases ay <;> first|rfl|exact absurd ⟨_,rfl⟩ hv
    rw [e] at hok' ⊢
    exact h1.bare hok' (fun b hb => .inl hb)⟩
  have e:(args.toList.map a.eval).toArray=args.map a.eval:=by apply Array.ext';simp
  rw [e] at this
  exact this.mono fun e w' ⟨v,h1,h2,h3⟩=>⟨v,h1,h2,h3.scal hs⟩
theorem op_callVF (f:FuncId) (args:Array Operand) (tys:Array TypeId) (r:PV) (h:o.op = .call { callee := .value (.func f),args:=args,argTypes:=tys }) (he:Ent P f) (hp:z8u P f (args.toList.map fun x=>(s.ev x).view s) r)
  (hok:((args.toList.map fun x=>(s.ev x).view s).all (·.okB 0))=true):zX P ops o s (.p r):=fun L loc a w hr=>by
 refine .inr ⟨f,args.map a.eval,?_,?_⟩
 ·have:=he (args.map a.eval) w
  simp [execOp,h,resolve,Act.eval,Deferred.ofValue,invoke,this]
 ·have:=hp L w (args.toList.map a.eval) (fun b hb=>hr.hp.inL b hb) ⟨by simp,fun j x v hx hv=>by
   simp only [List.getElem?_map,Option.map_eq_some_iff] at hx hv
   obtain ⟨y,hy,rfl⟩:=hx
   obtain ⟨y',hy',rfl⟩:=hv
   rw [hy] at hy'
   cases hy'
   have hm:y ∈ o.op.operands.toList:=by
    simp only [h,Op.operands,Call.operands,Array.toList_append,List.mem_append]
    exact .inr (List.mem_of_getElem? hy)
   have hok':=List.all_eq_true.1 hok ((s.ev y).view s) (List.mem_map.2 ⟨y,List.mem_of_getElem? hy,rfl⟩)
   have h1:=hr.ev y (zD hm)
   generalize s.ev y=ay at *
   by_cases hv : ∃ t,ay = .own t
   ·obtain ⟨t,rfl⟩:=hv
    simp only [AV.view] at hok' ⊢
    split
    ·rename_i e n rows hlk
     obtain ⟨_,u,hu,hor⟩:=hr.hp.at' t _ hlk
     generalize a.eval y=v at *
     cases h1 with
     | own _ _ _ _ hv2 =>
      obtain rfl:=hv2 u hu
      exact .p _ _ (hor.seq (fun b hb => .inl hb) (fun b hb=>hr.hp.notL t _ b hu hb))
    ·rename_i hno
     split at hok'
     ·rename_i e n rows hlk;exact absurd hlk (hno e n rows)
     ·simp [AV.okB] at hok'
   ·have e:ay.view s=ay:=by
     cases ay <;> first|rfl|exact absurd ⟨_,rfl⟩ hv
    rw [e] at hok' ⊢
    exact h1.bare hok' (fun b hb => .inl hb)⟩
  have e:(args.toList.map a.eval).toArray=args.map a.eval:=by apply Array.ext';simp
  rw [e] at this
  exact this.mono fun e w' ⟨v,h1,h2,h3⟩=>⟨v,h1,h2,(.p _ _ (h3.mono (Kp.refl _ _) fun k _ hk=>hr.hp.z8s hk))⟩
theorem z9q (t:Tmp) (f:FuncId) (caps:List AV) (args:Array Operand) (tys:Array TypeId) (r:AV) (h:o.op = .call { callee := .value (.tmp t),args:=args,argTypes:=tys }) (hf:s.get t = .fn (.func f) caps) (he:Ent P f)
  (hp:zx P f (args.toList.map s.ev++caps) r) (hok:((args.toList.map s.ev++caps).all (·.okB 0))=true):zX P ops o s r:=fun L loc a w hr=>by
 have h0:=hr.ev (.tmp t) (zD (by simp [h,Op.operands,Call.operands]))
 simp only [ASt.ev,hf] at h0
 generalize hu:a.eval (.tmp t)=u at h0
 cases h0 with
 | fn _ _ vs hvl hva =>
 refine .inr ⟨f,args.map a.eval++vs,?_,?_⟩
 ·have:=he (args.map a.eval++vs) w
  simp [execOp,h,resolve,hu,Deferred.ofValue,invoke,this]
 ·have:=hp (Dm L loc) w (args.toList.map a.eval++vs.toList) (fun b hb=>hr.hp.z8s hb) ⟨by simp [hvl],fun j x v hx hv=>by
   have hkb:x.okB 0=true:=List.all_eq_true.1 hok _ (List.mem_of_getElem? hx)
   rw [List.getElem?_append] at hx hv
   simp only [List.length_map] at hx hv
   split at hx
   ·rename_i hlt
    rw [if_pos hlt] at hv
    simp only [List.getElem?_map,Option.map_eq_some_iff] at hx hv
    obtain ⟨y,hy,rfl⟩:=hx
    obtain ⟨y',hy',rfl⟩:=hv
    rw [hy] at hy'
    cases hy'
    have hm:y ∈ o.op.operands.toList:=by
     simp only [h,Op.operands,Call.operands,Array.toList_append,List.mem_append]
     exact .inr (List.mem_of_getElem? hy)
    exact (hr.ev y (zD hm)).bare hkb (fun _ h=>h)
   ·rename_i hlt
    rw [if_neg hlt] at hv
    have h5:=hva _ x hx
    have h6:vs[j-args.toList.length]? = some v:=by simpa using hv
    rw [Array.getD_eq_getD_getElem?,h6] at h5
    exact h5.bare hkb (fun _ h=>h)⟩
  have e:(args.toList.map a.eval++vs.toList).toArray=args.map a.eval++vs:=by simp
  rw [e] at this
  exact this.mono fun e w' ⟨v,h1,h2,h3⟩=>⟨v,h1,h2,h3.dress⟩
end
section
variable {P:Program} {ops:Array Oper} {Q:Exit→ASt→Prop} {rest:List Oper} {o:Oper} {s:ASt}
theorem Rel.sub {X X' : Nat→Prop} {L:Lim} {s:ASt} {loc:Nat→Option Value} {a:Act} {w:World} (h:Rel X L s loc a w) (hX : ∀ t,X' t→X t):Rel X' L s loc a w:=⟨h.defers,h.size,fun t ht=>h.fr t (hX t ht),h.hp⟩
def z3D (ops:Array Oper) (o:Oper) (s:ASt):Prop:=match o.guard with
 | none=>True
 | some (g,want)=>match (ops[g]?).bind (·.dst) with
  | some t=>s.get t = .bool want
  | none=>False
def z1z (ops:Array Oper) (o:Oper) (s:ASt):Prop:=match o.guard with
 | none=>False
 | some (g,want)=>match (ops[g]?).bind (·.dst) with
  | some t=>s.get t = .bool (!want)∨s.get t = .tup []
  | none=>False
theorem z1g {X:Nat→Prop} {L:Lim} {loc:Nat→Option Value} {a:Act} {w:World} (hr:Rel X L s loc a w) {t:Nat} {b:Bool} (hX:X t) (h:s.get t = .bool b):a.tmps[t]? = some (.bool b):=by
 have h1:=hr.fr t hX
 rw [h] at h1
 have h2:=h1.val
 unfold slot at h2
 rw [Array.getD_eq_getD_getElem?] at h2
 cases h3:a.tmps[t]? with
 | none=>rw [h3] at h2;cases h2
 | some v=>rw [h3] at h2;simpa using h2
theorem z3D.spec {L:Lim} {loc:Nat→Option Value} {a:Act} {w:World} (h:z3D ops o s) (hr:Rel (looks ops o) L s loc a w):Region.wanted o (yielded ops a.tmps)=true:=by
 unfold z3D at h
 cases hg:o.guard with
 | none=>simp [Region.wanted,hg]
 | some gw =>
  obtain ⟨g,want⟩:=gw
  rw [hg] at h
  simp only at h
  cases hd:(ops[g]?).bind (·.dst) with
  | none=>rw [hd] at h;exact h.elim
  | some t =>
   rw [hd] at h
   have:=z1g hr (t:=t) (List.mem_append.2 (.inr (by simp [hg,hd]))) h
   simp [Region.wanted,hg,yielded,hd,this]
theorem z1z.spec {L:Lim} {loc:Nat→Option Value} {a:Act} {w:World} (h:z1z ops o s) (hr:Rel (looks ops o) L s loc a w):Region.wanted o (yielded ops a.tmps)=false:=by
 unfold z1z at h
 cases hg:o.guard with
 | none=>rw [hg] at h;exact h.elim
 | some gw =>
  obtain ⟨g,want⟩:=gw
  rw [hg] at h
  simp only at h
  cases hd:(ops[g]?).bind (·.dst) with
  | none=>rw [hd] at h;exact h.elim
  | some t =>
   rw [hd] at h
   rcases h with h|h
   ·have:=z1g hr (t:=t) (List.mem_append.2 (.inr (by simp [hg,hd]))) h
    simp only [Region.wanted,hg,yielded,hd,this,Option.bind_some]
    cases want <;> rfl
   ·have h1:=hr.fr t (List.mem_append.2 (.inr (by simp [hg,hd])))
    rw [h] at h1
    generalize hv:slot a t=v at h1
    cases h1 with
    | tup _ vs hl _ =>
    have h2:vs = #[]:=Array.eq_empty_of_size_eq_zero hl
    subst h2
    simp only [Region.wanted,hg,yielded,hd,Option.bind_some]
    cases h3:a.tmps[t]? with
    | none=>cases want <;> rfl
    | some v =>
     unfold slot at hv
     rw [Array.getD_eq_getD_getElem?,h3] at hv
     simp only [Option.getD_some] at hv
     subst hv
     cases want <;> rfl
theorem TL.nil (h:Q .normal s):TL P ops Q [] s:=fun _ loc _ _ hr => .of h hr (Ext.refl _ _)
theorem TL.skip (h:z1z ops o s) (k:TL P ops Q rest (s.put o.dst (.tup []))) (hd : ∀ t,o.dst=some t→t<s.n):TL P ops Q (o :: rest) s:=fun L loc a w hr=>by
 unfold wpList
 rw [h.spec (hr.sub fun _ _=>trivial),if_neg (by simp)]
 exact k L loc _ w (hr.put' hd (show AR _ _ _ _ (.tup []) undef from .tup [] #[] rfl (fun j x hx=>by simp at hx)))
def z1t (P:Program) (o:Oper) (s:ASt) (s' : ASt):Prop := ∀ L loc a w,Rel All L s loc a w→o.wp P a w (fun a' w' => ∃ loc',Rel All L s' loc' a' w' ∧ Ext loc w loc' w') (fun _ _ _=>False)
theorem TL.eff (hw:z3D ops o s) {s' : ASt} (h:z1t P o s s') (k:TL P ops Q rest s'):TL P ops Q (o :: rest) s:=fun L loc a w hr=>by
 unfold wpList
 rw [hw.spec (hr.sub fun _ _=>trivial),if_pos rfl]
 refine .inl (z2D (fun a' w' ⟨loc',h1,h2⟩=>?_) (fun _ _ _ h=>h.elim) (h L loc a w hr))
 exact z0s (fun _ _ _ k=>k.ext h2) rest a' w' (k L loc' a' w' h1)
theorem zX.eff {av:AV} (h:zX P ops o s av) (hd : ∀ t,o.dst=some t→t<s.n):z1t P o s (s.put o.dst av):=fun L loc a w hr=>by
 unfold Oper.wp
 rcases h L loc a w (hr.sub fun _ _=>trivial) with ⟨v,w',h1,h2,h3⟩|⟨f,args,h1,h2⟩
 ·rw [h1]
  exact ⟨loc,(hr.below h2).put' hd h3,.of_below h2⟩
 ·rw [h1]
  refine h2.mono fun e w' ⟨v,he,hb,ha⟩=>?_
  subst he
  exact ⟨loc,(hr.below hb).put' hd ha,.of_below hb⟩
theorem TL.val (hw:z3D ops o s) (av:AV) (h:zX P ops o s av) (hd : ∀ t,o.dst=some t→t<s.n) (k:TL P ops Q rest (s.put o.dst av)):TL P ops Q (o :: rest) s:=TL.eff hw (h.eff hd) k
def NQ (Q:Exit→ASt→Prop) (e:Exit) (s:ASt):Prop:=e = .normal∧Q .normal s
theorem NQ.out {L:Lim} {loc:Nat→Option Value} {w:World} {Q:Exit→ASt→Prop} (a:Act) (w' : World) : ¬ z10 L loc w (NQ Q) .outgrown a w':=fun ⟨_,_,h,_⟩=>by cases h.1
theorem NQ.post {L:Lim} {loc:Nat→Option Value} {w:World} {Q:Exit→ASt→Prop} {e:Exit} {a:Act} {w' : World} (h:z10 L loc w (NQ Q) e a w'):z10 L loc w Q e a w':=by
 obtain ⟨s',loc',⟨rfl,h1⟩,h2,h3⟩:=h
 exact ⟨s',loc',h1,h2,h3⟩
theorem NQ.normal (Q:Exit→ASt→Prop) (s:ASt):NQ Q .normal s=Q .normal s:=by simp [NQ]
def z2r (l:List Oper):Bool:=l.all z4p
theorem z0M {l:List Oper} (h:z2r l=true) : ∀ o ∈ l,z4p o=true:=List.all_eq_true.1 h
theorem T.region {F:Fence} [FOk F] {id:Nat} {l:List Oper} (hd:z2r l=true) (h:TL P l.toArray (NQ Q) l s):T F P (.region id l.toArray false) Q s:=fun L loc a w hr =>
 wpIn_mono (wpIn_region_lit (z6r NQ.out l a w (z0M hd) (h L loc a w hr))) fun _ _ _ k=>NQ.post k
end
end Go.Proofs.YtdlgoofjechocaaGreatDoor
