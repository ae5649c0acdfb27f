/- Texts Ao, Ap, At, Au, Ax. -/
import Derived.RangeFuncOwn
import Derived.Test.YtbkkginjfnjffaaGreatDoorZ04
set_option maxHeartbeats 32000000
set_option maxRecDepth 100000
set_option linter.unusedSimpArgs false
set_option linter.unusedVariables false
namespace Go.Proofs.YtbkkginjfnjffaaGreatDoor
open Go.RowKit Go.Sort
def allP {α:Type} : List α→(α→Prop)→Prop
 | [],_=>True
 | x :: r,f=>f x∧allP r f
theorem z5p {α:Type} : ∀ {l:List α} {f : α→Prop},allP l f → ∀ x ∈ l,f x
 | _ :: _,_,h,_,hx=>(List.mem_cons.1 hx).elim (fun e=>e ▸ h.1) (fun h'=>z5p h.2 _ h')
theorem WOv.val {P:Program} {ops:Array Oper} {o:Oper} {s:ASt} {K:ASt→Prop} (h:WOv P o s K) : ∃ av,qB P ops o s av∧K (s.put o.dst av):=by
 obtain ⟨dst,op,ty,pos,aft,gd⟩:=o
 unfold WOv at h
 simp only at h
 split at h
 ·obtain ⟨r,h1,h2⟩:=h
  exact ⟨r,h1.val rfl,h2⟩
 ·split at h
  ·rename_i f caps hf
   obtain ⟨r,h1,h4⟩:=h
   exact ⟨r,h1.val rfl hf,h4⟩
  ·exact h.elim
 ·split at h
  ·rename_i av hav;exact ⟨av,z3b hav,h⟩
  ·exact h.elim
def Chk (P:Program) (o:Oper) (s:ASt) (av:AV):Prop:=WOv P o s fun s'=>s' = s.put o.dst av
theorem Chk.val {P:Program} {ops:Array Oper} {o:Oper} {s:ASt} {av:AV} {d:Nat} (hd:o.dst=some d) (h:Chk P o s av):qB P ops o s av:=by
 obtain ⟨av',h1,h2⟩:=WOv.val (ops:=ops) h
 rw [hd] at h2
 have:av' = av:=by
  have:=congrArg ASt.fr h2
  simpa [ASt.put] using this
 exact this ▸ h1
theorem qB.agree {P:Program} {ops:Array Oper} {o:Oper} {s s' : ASt} {av:AV} (h:qB P ops o s av) (hh:s'.hp=s.hp) (hn:s'.n=s.n) (hN:s'.N=s.N) (hg : ∀ t ∈ o.looksAt ops,s'.get t=s.get t):qB P ops o s' av:=fun L loc a w hr=>by
 have:=h L loc a w ⟨hr.defers,hr.size.trans hn,fun t ht=>by have:=hr.fr t ht;rw [hg t ht,hN] at this;exact this,by have:=hr.hp;rw [hN,hh] at this;exact this⟩
 rw [hN];exact this
def GOK (P:Program) (ops:Array Oper) (o:Oper) (s:ASt) (av:AV):Prop:=match o.guard with
 | none=>qB P ops o s av
 | some (g,want)=>(∃ t b,(ops[g]?).bind (·.dst)=some t∧s.get t = .bool b∧(b=want→qB P ops o s av)∧(b ≠ want→av = .tup [])) ∨ ∃ t,(ops[g]?).bind (·.dst)=some t∧s.get t = .tup []∧av = .tup []
def WOw (P:Program) (o:Oper) (s:ASt) (K:ASt→Prop):Prop:=match o.op with
 | .store t x y=>match s.ev x with
  | .ptr tag off=>match s.hp.lookup tag with
   | some (.boxP pin ty cs)=>match z0e (s.ev y) with
    | some ys=>(qy P t=some ys.length∧off+ys.length≤cs.length∧o.dst=none)∧K { s with hp:=zO s.hp tag (.boxP pin ty (qM cs off ys)) }
    | none=>False
   | _=>False
  | _=>False
 | .alloc ty=>match zN P ty with
  | some zs=>K ((s.add (.boxP none ty (zs.map fun v => .p (.val v)))).put o.dst (.ptr s.N 0))
  | none=>False
 | .box ty x=>match z0e (s.ev x) with
  | some cs=>K ((s.add (.boxP none ty cs)).put o.dst (.ptr s.N 0))
  | none=>False
 | .makeSlice t x y=>match s.ev x,s.ev y with
  | .p (.val (.int _ l)),.p (.val (.int _ l'))=>match zY P t with
   | some (e,n,bytes)=>match zN P e with
    | some zs=>(l=l' ∧ 0≤l∧l.toNat≤maxLen∧bytes*l.toNat≤140737488355328)∧K ((s.add (.row e n (List.replicate l.toNat (zs.map .val)))).put o.dst (.own s.N))
    | none=>False
   | none=>False
  | _,_=>False
 | .buildSlice t 0 ⟨[]⟩=>match zY P t with
  | some (e,n,_)=>K ((s.add (.row e n [])).put o.dst (.own s.N))
  | none=>False
 | .call { callee := .builtin .append,args:=⟨[x,y]⟩,argTypes:=⟨[ty,ty']⟩ }=>match s.ev x,s.ev y with
  | .own tag,.p (.seq n ys)=>match s.hp.lookup tag,zY P ty with
   | some (.row e m rows),some (e',m',bytes)=>(ty=ty' ∧ e=e' ∧ n=m∧m=m' ∧ rows.length+ys.length≤maxLen∧(rows.length+ys.length)*bytes≤140737488355328)∧K (ASt.put { s with hp:=(s.N,.row e m (rows++ys)) :: s.hp.filter (fun p=>p.1 != tag),N:=s.N+1 } o.dst (.own s.N))
   | _,_=>False
  | _,_=>False
 | _=>False
theorem z1C {ops:Array Oper} {o:Oper} {s s' : ASt} (hg : ∀ t ∈ o.looksAt ops,s'.get t=s.get t) {x:Operand} (hx:x ∈ o.op.operands.toList):s'.ev x=s.ev x:=by
 cases x with
 | tmp t=>exact hg t (List.mem_append.2 (.inl (List.mem_filterMap.2 ⟨_,hx,rfl⟩)))
 | _=>rfl
def WEff (P:Program) (ops:Array Oper) (o:Oper) (s:ASt) (h' : Hp × Nat) (av:AV):Prop := ∀ s' : ASt,s'.hp=s.hp→s'.n=s.n→s'.N=s.N→(∀ t ∈ o.looksAt ops,s'.get t=s.get t)→(∀ t,o.dst=some t→t<s'.n)→z0L P o s' (ASt.put { s' with hp:=h'.1,N:=h'.2 } o.dst av)
theorem WOw.eff {P:Program} {ops:Array Oper} {o:Oper} {s:ASt} {K:ASt→Prop} (h:WOw P o s K) : ∃ h' av,WEff P ops o s h' av∧K (ASt.put { s with hp:=h'.1,N:=h'.2 } o.dst av):=by
 obtain ⟨dst,op,ty,pos,aft,gd⟩:=o
 unfold WOw at h
 simp only at h
 split at h
 ·rename_i t x y
  split at h
  ·rename_i tag off hx
   split at h
   ·rename_i pin ty' cs hlk
    split at h
    ·rename_i ys hy
     obtain ⟨⟨h1,h2,h3⟩,h4⟩:=h
     subst h3
     refine ⟨(zO s.hp tag (.boxP pin ty' (qM cs off ys)),s.N),.zy,fun s' e1 e2 e3 e4 hd=>?_,h4⟩
     have ex:s'.ev x=s.ev x:=z1C e4 (by simp [Op.operands])
     have ey:s'.ev y=s.ev y:=z1C e4 (by simp [Op.operands])
     have:=z8d (P:=P) (o:=⟨none,.store t x y,ty,pos,aft,gd⟩) (s:=s') t x y tag off pin ty' cs ys rfl (by rw [ex,hx]) (by rw [e1,hlk]) (by rw [ey,hy]) h1 h2 rfl
     rw [e1] at this
     simp only [ASt.put,← e3]
     exact this
    ·exact h.elim
   ·exact h.elim
  ·exact h.elim
 ·rename_i ty'
  split at h
  ·rename_i zs hz
   refine ⟨((s.N,.boxP none ty' (zs.map fun v => .p (.val v))) :: s.hp,s.N+1),.ptr s.N 0,fun s' e1 e2 e3 e4 hd=>?_,h⟩
   have:=z8a (P:=P) (o:=⟨dst,.alloc ty',ty,pos,aft,gd⟩) (s:=s') ty' zs rfl hz hd
   simp only [ASt.add,e1,e3] at this
   exact this
  ·exact h.elim
 ·rename_i ty' x
  split at h
  ·rename_i cs hx
   refine ⟨((s.N,.boxP none ty' cs) :: s.hp,s.N+1),.ptr s.N 0,fun s' e1 e2 e3 e4 hd=>?_,h⟩
   have ex:s'.ev x=s.ev x:=z1C e4 (by simp [Op.operands])
   have:=op_box (P:=P) (o:=⟨dst,.box ty' x,ty,pos,aft,gd⟩) (s:=s') ty' x cs rfl (by rw [ex,hx]) hd
   simp only [ASt.add,e1,e3] at this
   exact this
  ·exact h.elim
 ·rename_i t x y
  split at h
  ·rename_i k l k' l' hx hy
   split at h
   ·rename_i e n bytes ht
    split at h
    ·rename_i zs hz
     obtain ⟨⟨rfl,h0,h1,h2⟩,h4⟩:=h
     obtain ⟨m,rfl⟩ : ∃ m:Nat,l=m:=⟨l.toNat,by omega⟩
     simp only [Int.toNat_natCast] at h1 h2 h4
     refine ⟨((s.N,.row e n (List.replicate m (zs.map .val))) :: s.hp,s.N+1),.own s.N,fun s' e1 e2 e3 e4 hd=>?_,h4⟩
     have ex:s'.ev x=s.ev x:=z1C e4 (by simp [Op.operands])
     have ey:s'.ev y=s.ev y:=z1C e4 (by simp [Op.operands])
     have:=z8c (P:=P) (o:=⟨dst,.makeSlice t x y,ty,pos,aft,gd⟩) (s:=s') t x y k k' e n bytes m zs rfl (by rw [ex,hx]) (by rw [ey,hy]) ht hz h1 h2 hd
     simp only [ASt.add,e1,e3] at this
     exact this
    ·exact h.elim
   ·exact h.elim
  ·exact h.elim
 ·rename_i t
  split at h
  ·rename_i e n bytes ht
   refine ⟨((s.N,.row e n []) :: s.hp,s.N+1),.own s.N,fun s' e1 e2 e3 e4 hd=>?_,h⟩
   have:=z5g (P:=P) (o:=⟨dst,.buildSlice t 0 ⟨[]⟩,ty,pos,aft,gd⟩) (s:=s') t e n bytes rfl ht hd
   simp only [ASt.add,e1,e3] at this
   exact this
  ·exact h.elim
 ·rename_i x y ty1 ty2
  split at h
  ·rename_i tag n ys hx hy
   split at h
   ·rename_i e m rows e' m' bytes hlk ht
    obtain ⟨⟨rfl,rfl,rfl,rfl,h1,h2⟩,h3⟩:=h
    refine ⟨((s.N,.row e n (rows++ys)) :: s.hp.filter (fun p=>p.1 != tag),s.N+1),.own s.N,fun s' e1 e2 e3 e4 hd=>?_,h3⟩
    have ex:s'.ev x=s.ev x:=z1C e4 (by simp [Op.operands,Call.operands])
    have ey:s'.ev y=s.ev y:=z1C e4 (by simp [Op.operands,Call.operands])
    have:=z8O (P:=P) (o:=⟨dst,.call { callee := .builtin .append,args:=⟨[x,y]⟩,argTypes:=⟨[ty1,ty1]⟩ },ty,pos,aft,gd⟩) (s:=s') x y ty1 tag e n bytes rows ys rfl (by rw [ex,hx]) (by rw [e1,hlk]) ht (by rw [ey,hy]) h1 h2 hd
    simp only [e1,e3] at this
    exact this
   ·exact h.elim
  ·exact h.elim
 ·exact h.elim
def dav (o:Oper) (s:ASt):AV:=match o.dst with
 | some d=>s.get d
 | none => .zy
abbrev Pend:=Oper × Nat × AV
def WCv (P:Program) (N:List Pend→ASt→Prop) (pend:List Pend) (prev:List (Hp × Nat)) (o:Oper) (lo hi:Nat) (s s' : ASt):Prop :=
 allP (prev.drop lo) (fun h=>Chk P o { s with hp:=h.1,N:=h.2 } (dav o s'))∧N (if prev.length<hi then (o,hi,dav o s') :: pend else pend) s'
def WC (P:Program) (ds:List (Option Nat)) (Q:ASt→Prop):List (Oper × Option (Nat × Nat))→List Pend→List (Hp × Nat)→ASt→Prop
 | [],_,_,s=>Q s
 | (o,some (lo,hi)) :: r,pend,prev,s=>match o.guard with
  | none=>WOv P o s fun s'=>WCv P (fun pd s'=>WC P ds Q r pd prev s') pend prev o lo hi s s'
  | some (g,want)=>match ds[g]? with
   | some (some t)=>match s.get t with
    | .p (.val (.bool b))=>WG b want (WOv P o (s.put (some t) (.bool want)) fun s'=>WCv P (fun pd s'=>WC P ds Q r pd prev s') pend prev o lo hi (s.put (some t) (.bool want)) s') (WC P ds Q r pend prev ((s.put (some t) (.bool (!want))).put o.dst (.tup [])))
    | .tup []=>WC P ds Q r pend prev (s.put o.dst (.tup []))
    | _=>False
   | _=>False
 | (o,none) :: r,pend,prev,s=>WOw P o s fun s'=>allP pend (fun p=>prev.length<p.2.1→Chk P p.1 { s with hp:=s'.hp,N:=s'.N } p.2.2)∧WC P ds Q r pend (prev ++ [(s.hp,s.N)]) s'
theorem GOK.agree {P:Program} {ops:Array Oper} {o:Oper} {s s' : ASt} {av:AV} (h:GOK P ops o s av) (hh:s'.hp=s.hp) (hn:s'.n=s.n) (hN:s'.N=s.N) (hg : ∀ t ∈ o.looksAt ops,s'.get t=s.get t):GOK P ops o s' av:=by
 unfold GOK at *
 split
 ·rename_i e;rw [e] at h;exact h.agree hh hn hN hg
 ·rename_i g want e
  rw [e] at h
  rcases h with ⟨t,b,h1,h2,h3,h4⟩|⟨t,h1,h2,h3⟩
  ·exact .inl ⟨t,b,h1,by rw [hg t (List.mem_append.2 (.inr (by simp [e,h1]))),h2],fun e=>(h3 e).agree hh hn hN hg,h4⟩
  ·exact .inr ⟨t,h1,by rw [hg t (List.mem_append.2 (.inr (by simp [e,h1]))),h2],h3⟩
theorem WEff.agree {P:Program} {ops:Array Oper} {o:Oper} {s s' : ASt} {h' : Hp × Nat} {av av' : AV} (h:WEff P ops o s h' av) (hh:s'.hp=s.hp) (hn:s'.n=s.n) (hN:s'.N=s.N) (hg : ∀ t ∈ o.looksAt ops,s'.get t=s.get t) (hav : ∀ d,o.dst=some d→av' = av):WEff P ops o s' h' av':=fun s2 e1 e2 e3 e4 hd=>by
 have:=h s2 (e1.trans hh) (e2.trans hn) (e3.trans hN) (fun t ht=>(e4 t ht).trans (hg t ht)) hd
 cases hd' : o.dst with
 | none=>rw [hd'] at this;exact this
 | some d=>rw [hd',← hav d hd'] at this;exact this
abbrev El:=List (Oper × Option (Nat × Nat))
def wct (el:El):Nat:=el.countP fun e=>e.2.isNone
structure Out (P:Program) (ops:Array Oper) (el:El) (pend:List Pend) (prev:List (Hp × Nat)) (s fin:ASt) (hps:List (Hp × Nat)):Prop where
 n:fin.n=s.n
 mem : ∃ tl,hps=prev++(s.hp,s.N) :: tl∧tl.length=wct el
 last:hps.getLast? = some (fin.hp,fin.N)
 out : ∀ t,(∀ e ∈ el,e.1.dst ≠ some t)→fin.get t=s.get t
 pnd : ∀ p ∈ pend,∀ (j:Nat) (h:Hp × Nat),prev.length<j→j≤p.2.1→hps[j]? = some h→qB P ops p.1 ⟨fin.fr,h.1,fin.n,h.2⟩ p.2.2
 val : ∀ (i:Nat) o lo hi,el[i]? = some (o,some (lo,hi)) → ∀ d,o.dst=some d → ∀ (j:Nat) (h:Hp × Nat),lo≤j→j≤hi→hps[j]? = some h→GOK P ops o ⟨fin.fr,h.1,fin.n,h.2⟩ (fin.get d)
 wr : ∀ (i:Nat) o,el[i]? = some (o,none) → ∃ h h' : Hp × Nat,hps[prev.length+wct (el.take i)]? = some h∧hps[prev.length+wct (el.take i)+1]? = some h' ∧ WEff P ops o ⟨fin.fr,h.1,fin.n,h.2⟩ h' (dav o fin)
theorem Out.z5t {P:Program} {ops:Array Oper} {r:El} {pend pend' : List Pend} {prev hps:List (Hp × Nat)} {s s' fin:ASt} {o:Oper} {lo hi d:Nat} {av:AV} (ho:Out P ops r pend' prev s' fin hps) (hd:o.dst=some d) (h1:s'.hp=s.hp) (h2:s'.n=s.n) (h3:s'.N=s.N)
  (hg : ∀ t,s'.get t=if t=d then av else s.get t) (hsub : ∀ p ∈ pend,p ∈ pend') (uniq : ∀ e ∈ r,e.1.dst ≠ some d) (hv : ∀ (j:Nat) (h:Hp × Nat),lo≤j→j≤hi→hps[j]? = some h→GOK P ops o ⟨fin.fr,h.1,fin.n,h.2⟩ av):Out P ops ((o,some (lo,hi)) :: r) pend prev s fin hps:=by
 have hfd:fin.get d=av:=by rw [ho.out d uniq,hg,if_pos rfl]
 refine ⟨ho.n.trans h2,?_,ho.last,fun t ht=>?_,fun p hp=>ho.pnd p (hsub p hp),fun i o' lo' hi' hi2 d' hd' j h hl hh hj=>?_,fun i o' hi2=>?_⟩
 ·obtain ⟨tl,e1,e2⟩:=ho.mem
  exact ⟨tl,by rw [e1,h1,h3],by rw [e2];simp [wct,List.countP_cons]⟩
 ·rw [ho.out t (fun e he=>ht e (List.mem_cons.2 (.inr he))),hg,if_neg]
  exact fun e=>ht _ (List.mem_cons.2 (.inl rfl)) (by rw [hd,e])
 ·cases i with
  | zero =>
   cases hi2
   rw [hd] at hd';cases hd'
   rw [hfd];exact hv j h hl hh hj
  | succ i=>exact ho.val i o' lo' hi' hi2 d' hd' j h hl hh hj
 ·cases i with
  | zero=>cases hi2
  | succ i =>
   have:=ho.wr i o' hi2
   simpa [wct,List.countP_cons] using this
structure Fit (ops:Array Oper) (el:El):Prop where
 late : ∀ (i j:Nat) a b,el[i]? = some a→el[j]? = some b→i≤j → ∀ t ∈ a.1.looksAt ops,b.1.dst ≠ some t
 uniq : ∀ (i j:Nat) a b d,el[i]? = some a→el[j]? = some b→i<j→a.1.dst=some d→b.1.dst ≠ some d
 dst : ∀ a ∈ el,a.2.isSome=true → ∃ d,a.1.dst=some d
theorem Fit.tail {ops:Array Oper} {a:Oper × Option (Nat × Nat)} {r:El} (h:Fit ops (a :: r)):Fit ops r :=
 ⟨fun i j x y hx hy hij=>h.late (i+1) (j+1) x y hx hy (by omega),fun i j x y d hx hy hij=>h.uniq (i+1) (j+1) x y d hx hy (by omega),fun x hx=>h.dst x (List.mem_cons.2 (.inr hx))⟩
theorem Fit.head {ops:Array Oper} {a:Oper × Option (Nat × Nat)} {r:El} (h:Fit ops (a :: r)):(∀ t ∈ a.1.looksAt ops,a.1.dst ≠ some t ∧ ∀ e ∈ r,e.1.dst ≠ some t) ∧ ∀ d,a.1.dst=some d → ∀ e ∈ r,e.1.dst ≠ some d :=
 ⟨fun t ht=>⟨h.late 0 0 a a rfl rfl (Nat.le_refl _) t ht,fun e he=>by
  obtain ⟨j,hj⟩:=List.mem_iff_getElem?.1 he
  exact h.late 0 (j+1) a e rfl hj (Nat.zero_le _) t ht⟩,fun d hd e he=>by
  obtain ⟨j,hj⟩:=List.mem_iff_getElem?.1 he
  exact h.uniq 0 (j+1) a e d rfl hj (by omega) hd⟩
theorem WC.out {P:Program} {ops:Array Oper} {Q:ASt→Prop} : ∀ (el:El) (pend:List Pend) (prev:List (Hp × Nat)) (s:ASt),Fit ops el→WC P (ops.toList.map (·.dst)) Q el pend prev s→(∀ p ∈ pend,(∃ d,p.1.dst=some d) ∧ ∀ t ∈ p.1.looksAt ops,∀ e ∈ el,e.1.dst ≠ some t) →
  (∀ a ∈ el,a.2=none→a.1.guard=none) → ∃ fin hps,Q fin∧Out P ops el pend prev s fin hps
 | [],pend,prev,s,hf,h,hp,hgd=>⟨s,prev ++ [(s.hp,s.N)],h,rfl,⟨[],rfl,rfl⟩,by simp,fun _ _=>rfl,fun p _ j h hj _ he=>by
   have:=(List.getElem?_eq_some_iff.1 he).1
   simp at this;omega,fun i o lo hi hi2=>(by cases hi2),fun i o hi2=>(by cases hi2)⟩
 | (o,some (lo,hi)) :: r,pend,prev,s,hf,h,hp,hgd=>by
  obtain ⟨d,hd⟩ : ∃ d,o.dst=some d:=hf.dst _ (List.mem_cons.2 (.inl rfl)) rfl
  obtain ⟨hlate,huniq⟩:=hf.head
  have hr:=hf.tail
  have hgd' : ∀ a ∈ r,a.2=none→a.1.guard=none:=fun a ha=>hgd a (List.mem_cons.2 (.inr ha))
  have hpr : ∀ p ∈ pend,(∃ d,p.1.dst=some d) ∧ ∀ t ∈ p.1.looksAt ops,∀ e ∈ r,e.1.dst ≠ some t:=fun p hp'=>⟨(hp p hp').1,fun t ht e he=>(hp p hp').2 t ht e (List.mem_cons.2 (.inr he))⟩
  -- the walk's word,for a state that says what s says
  have key : ∀ (s1:ASt),Sq s s1→(∀ s2:ASt,∀ av,(∀ t ∈ o.looksAt ops,s2.get t=s1.get t)→qB P ops o s2 av→GOK P ops o s2 av) →
    (WOv P o s1 fun s'=>WCv P (fun pd s'=>WC P (ops.toList.map (·.dst)) Q r pd prev s') pend prev o lo hi s1 s') → ∃ fin hps,Q fin∧Out P ops ((o,some (lo,hi)) :: r) pend prev s fin hps:=by
   intro s1 hsq hgk hw
   obtain ⟨av,hov,hcv,hwc⟩:=WOv.val (ops:=ops) hw
   have hdav:dav o (s1.put o.dst av)=av:=by simp only [dav,hd];rw [ASt.get_put,if_pos rfl]
   rw [hdav] at hcv hwc
   rw [hd] at hwc
   have hsub : ∀ p ∈ pend,p ∈ (if prev.length<hi then (o,hi,av) :: pend else pend):=fun p hp'=>by
    split
    ·exact List.mem_cons.2 (.inr hp')
    ·exact hp'
   obtain ⟨fin,hps,hq,ho⟩:=WC.out r _ prev _ hr hwc (fun p hp'=>by
    split at hp'
    ·rcases List.mem_cons.1 hp' with rfl|hp'
     ·exact ⟨⟨d,hd⟩,fun t ht=>(hlate t ht).2⟩
     ·exact hpr p hp'
    ·exact hpr p hp') hgd'
   have hlook : ∀ t ∈ o.looksAt ops,fin.get t=s1.get t:=fun t ht=>by
    rw [ho.out t (hlate t ht).2,ASt.get_put,if_neg]
    exact fun e=>(hlate t ht).1 (by rw [hd,e])
   refine ⟨fin,hps,hq,ho.z5t hd hsq.hp hsq.n hsq.N (av:=av) (fun t=>?_) hsub (huniq d hd) (fun j h hl hh hj=>?_)⟩
   ·rw [ASt.get_put]
    split
    ·rfl
    ·exact hsq.get t
   ·refine hgk _ _ hlook ?_
    by_cases h1:j<prev.length
    ·obtain ⟨tl,e1,_⟩:=ho.mem
     rw [e1,List.getElem?_append_left h1] at hj
     have hm:h ∈ prev.drop lo:=List.mem_iff_getElem?.2 ⟨j-lo,by rw [List.getElem?_drop,show lo+(j-lo)=j by omega];exact hj⟩
     exact ((z5p hcv h hm).val hd).agree rfl ho.n rfl hlook
    ·by_cases h2:j=prev.length
     ·subst h2
      obtain ⟨tl,e1,_⟩:=ho.mem
      rw [e1,List.getElem?_append_right (Nat.le_refl _),Nat.sub_self] at hj
      cases hj
      exact hov.agree rfl ho.n rfl hlook
     ·exact ho.pnd (o,hi,av) (by rw [if_pos (by omega)];exact List.mem_cons.2 (.inl rfl)) j h (by omega) hh hj
  unfold WC at h
  cases hg:o.guard with
  | none =>
   rw [hg] at h
   exact key s (Sq.refl s) (fun s2 av _ h=>by unfold GOK;rw [hg];exact h) h
  | some gw =>
   obtain ⟨g,want⟩:=gw
   rw [hg] at h
   simp only at h
   split at h
   ·rename_i t ht
    have ht' : (ops[g]?).bind (·.dst)=some t:=by
     simp only [List.getElem?_map,Option.map_eq_some_iff,Array.getElem?_toList] at ht
     obtain ⟨o',h1,h2⟩:=ht
     rw [h1];exact h2
    have htl:t ∈ o.looksAt ops:=List.mem_append.2 (.inr (by simp [hg,ht']))
    split at h
    ·rename_i b hb
     by_cases hbw:b=want
     ·have hsq:=Sq.same (s:=s) (t:=t) (x := .bool want) (by rw [hb,hbw])
      refine key _ hsq (fun s2 av hl ho=>?_) (h.1 hbw)
      unfold GOK;rw [hg]
      exact .inl ⟨t,want,ht',by rw [hl t htl,hsq.get,hb,hbw],fun _=>ho,fun e=>absurd rfl e⟩
     ·have hbn:b=(!want):=by cases b <;> cases want <;> simp_all
      have hsq:=Sq.same (s:=s) (t:=t) (x := .bool (!want)) (by rw [hb,hbn])
      have hwc:=h.2 hbn
      rw [hd] at hwc
      obtain ⟨fin,hps,hq,ho⟩:=WC.out r pend prev _ hr hwc hpr hgd'
      have hlook : ∀ t ∈ o.looksAt ops,fin.get t=s.get t:=fun t ht=>by
       rw [ho.out t (hlate t ht).2,ASt.get_put,if_neg (fun e=>(hlate t ht).1 (by rw [hd,e])),hsq.get]
      refine ⟨fin,hps,hq,ho.z5t hd hsq.hp hsq.n hsq.N (av := .tup []) (fun k=>?_) (fun _ h=>h) (huniq d hd) (fun j h hl hh hj=>?_)⟩
      ·rw [ASt.get_put]
       split
       ·rfl
       ·exact hsq.get k
      ·unfold GOK;rw [hg]
       exact .inl ⟨t,b,ht',by show fin.get t=_;rw [hlook t htl,hb],fun e=>absurd e hbw,fun _=>rfl⟩
    ·rename_i hb
     have hwc:=h
     rw [hd] at hwc
     obtain ⟨fin,hps,hq,ho⟩:=WC.out r pend prev _ hr hwc hpr hgd'
     have hlook : ∀ t ∈ o.looksAt ops,fin.get t=s.get t:=fun t ht=>by
      rw [ho.out t (hlate t ht).2,ASt.get_put,if_neg (fun e=>(hlate t ht).1 (by rw [hd,e]))]
     refine ⟨fin,hps,hq,ho.z5t hd rfl rfl rfl (av := .tup []) (fun k=>?_) (fun _ h=>h) (huniq d hd) (fun j h hl hh hj=>?_)⟩
     ·rw [ASt.get_put]
     ·unfold GOK;rw [hg]
      exact .inr ⟨t,ht',by show fin.get t=_;rw [hlook t htl,hb],rfl⟩
    ·exact h.elim
   ·exact h.elim
 | (o,none) :: r,pend,prev,s,hf,h,hp,hgd=>by
  obtain ⟨hlate,huniq⟩:=hf.head
  have hr:=hf.tail
  unfold WC at h
  obtain ⟨h',av,heff,hpd,hwc⟩:=WOw.eff (ops:=ops) h
  obtain ⟨fin,hps,hq,ho⟩:=WC.out r pend (prev ++ [(s.hp,s.N)]) _ hr hwc (fun p hp'=>⟨(hp p hp').1,fun t ht e he=>(hp p hp').2 t ht e (List.mem_cons.2 (.inr he))⟩) (fun a ha=>hgd a (List.mem_cons.2 (.inr ha)))
  have hput : ∀ (s:ASt) (d:Option Nat) (x:AV),(s.put d x).hp=s.hp∧(s.put d x).n=s.n∧(s.put d x).N=s.N:=fun s d x=>by cases d <;> exact ⟨rfl,rfl,rfl⟩
  have hput2 : ∀ (s:ASt) (t:Nat),o.dst ≠ some t→(s.put o.dst av).get t=s.get t:=fun s t ht=>by
   cases hd:o.dst with
   | none=>rfl
   | some d=>rw [ASt.get_put,if_neg (fun e=>ht (by rw [hd,e]))]
  obtain ⟨tl,e1,e2⟩:=ho.mem
  rw [(hput _ _ _).1,(hput _ _ _).2.2] at e1
  have hn:fin.n=s.n:=ho.n.trans (hput _ _ _).2.1
  have hlook : ∀ t,(o.dst ≠ some t ∧ ∀ e ∈ r,e.1.dst ≠ some t)→fin.get t=s.get t:=fun t ht=>by
   rw [ho.out t ht.2,hput2 _ t ht.1];rfl
  have e1' : hps=prev++(s.hp,s.N) :: (h'.1,h'.2) :: tl:=by rw [e1];simp
  refine ⟨fin,hps,hq,hn,⟨_,e1',by simp [e2,wct,List.countP_cons]⟩,ho.last,fun t ht=>hlook t ⟨ht _ (List.mem_cons.2 (.inl rfl)),fun e he=>ht e (List.mem_cons.2 (.inr he))⟩,fun p hp' j h hj hh hjs=>?_,fun i o' lo hi hi2=>?_,fun i o' hi2=>?_⟩
  ·by_cases h2:j=prev.length+1
   ·subst h2
    rw [e1',List.getElem?_append_right (by omega),show prev.length+1-prev.length=1 by omega] at hjs
    cases hjs
    obtain ⟨⟨d,hd⟩,hl⟩:=hp p hp'
    have hc:=(z5p hpd p hp' (by omega)).val (ops:=ops) hd
    refine hc.agree ?_ hn ?_ (fun t ht=>hlook t ⟨hl t ht _ (List.mem_cons.2 (.inl rfl)),fun e he=>hl t ht e (List.mem_cons.2 (.inr he))⟩)
    ·exact (hput { s with hp:=h'.1,N:=h'.2 } o.dst av).1.symm
    ·exact (hput { s with hp:=h'.1,N:=h'.2 } o.dst av).2.2.symm
   ·exact ho.pnd p hp' j h (by simp;omega) hh hjs
  ·cases i with
   | zero=>cases hi2
   | succ i=>exact ho.val i o' lo hi hi2
  ·cases i with
   | zero =>
    cases hi2
    refine ⟨(s.hp,s.N),h',by rw [e1'];simp [wct],by rw [e1'];simp [wct],heff.agree rfl hn rfl (fun t ht=>hlook t (hlate t ht)) (fun d hd=>?_)⟩
    simp only [dav,hd]
    rw [ho.out d (huniq d hd),hd,ASt.get_put,if_pos rfl]
   | succ i =>
    have:=ho.wr i o' hi2
    simpa [wct,List.countP_cons,Nat.add_assoc,Nat.add_comm,Nat.add_left_comm] using this
abbrev Fl:=List (Option (Nat × Nat))
def z1p (ops:Array Oper) (i j:Nat):Bool:=match ops[i]? with
 | some o=>o.after.any (fun e=>Region.binds .any e&&e.on==j)
 | none=>false
def rkf (fl:Fl) (i:Nat):Nat:=(fl.take i).countP (·.isNone)
def wrB (fl:Fl) (i:Nat):Bool:=match fl[i]? with
 | some none=>true
 | _=>false
def z7K (l:Array Oper) (i k:Nat):Bool:=z1p l i k||(List.range l.size).any fun j=>z1p l i j&&z1p l j k
def z2B (l:List Oper) (fl:Fl) (size i:Nat) (o:Oper) (f:Option (Nat × Nat)):Bool :=
 (match o.dst with|some d=>decide (d<size)|none=>f.isNone) &&
 (o.after.all (fun e => !Region.binds .any e||decide (e.on<i)) &&
 ((o.looksAt l.toArray).all (fun t=>decide (t<size)&&(List.range l.length).all fun j=>((l[j]?).bind (·.dst)) != some t||z1p l.toArray i j) &&
 ((List.range l.length).all (fun j=>i==j||o.dst.isNone||((l[j]?).bind (·.dst)) != o.dst) &&
 (match f with
  | some (lo,hi)=>(decide (lo=0)||(List.range l.length).any fun k=>wrB fl k&&(rkf fl k+1==lo&&z1p l.toArray i k))&&(decide (rkf fl fl.length≤hi)||(List.range l.length).any fun k=>wrB fl k&&(rkf fl k==hi&&z1p l.toArray k i))
  | none=>o.guard.isNone&&(decide (rkf fl i=0)||(List.range l.length).any fun k=>wrB fl k&&(rkf fl k+1==rkf fl i&&z7K l.toArray i k))))))
def z8y (l:List Oper) (fl:Fl) (size:Nat):Bool :=
 decide (fl.length=l.length)&&((decide (rkf fl fl.length=0)||(List.range fl.length).any fun i=>wrB fl i&&rkf fl i+1==rkf fl fl.length) &&
 (List.range l.length).all fun i=>match l[i]?,fl[i]? with
  | some o,some f=>z2B l fl size i o f
  | _,_=>false)
theorem z0P {ops:Array Oper} {i j:Nat} (h:z1p ops i j=true) : ∃ o e,ops[i]? = some o∧e ∈ o.after∧Region.binds .any e=true∧e.on=j:=by
 unfold z1p at h
 split at h
 ·rename_i o ho
  obtain ⟨k,hk,he⟩:=Array.any_eq_true.1 h
  simp only [Bool.and_eq_true,beq_iff_eq] at he
  exact ⟨o,_,ho,Array.getElem_mem hk,he.1,he.2⟩
 ·cases h
theorem z1i {fl:Fl} {i:Nat} (h:wrB fl i=true):fl[i]? = some none:=by
 unfold wrB at h
 split at h
 ·assumption
 ·cases h
theorem z18 {l:List Oper} {fl:Fl} {size i:Nat} {o:Oper} (h:z8y l fl size=true) (ho:l[i]? = some o) : ∃ f,fl[i]? = some f∧z2B l fl size i o f=true:=by
 simp only [z8y,Bool.and_eq_true,List.all_eq_true,List.mem_range] at h
 have:=h.2.2 i (List.getElem?_eq_some_iff.1 ho).1
 rw [ho] at this
 cases hf:fl[i]? with
 | none=>simp [hf] at this
 | some f=>simp [hf] at this;exact ⟨f,rfl,this⟩
theorem z5T {fl:Fl} {i:Nat} (h:fl[i]? = some none):rkf fl (i+1)=rkf fl i+1:=by
 unfold rkf
 rw [List.take_add_one,h,List.countP_append];simp
theorem z5S (fl:Fl) {i j:Nat} (h:i≤j):rkf fl i≤rkf fl j:=by
 unfold rkf
 exact List.Sublist.countP_le (List.take_sublist_take_left h)
theorem rkf_inj {fl:Fl} {i j:Nat} (hi:fl[i]? = some none) (hj:fl[j]? = some none) (h:rkf fl i=rkf fl j):i=j:=by
 rcases Nat.lt_trichotomy i j with h1|h1|h1
 ·have:=z5S fl (show i+1≤j from h1);rw [z5T hi] at this;omega
 ·exact h1
 ·have:=z5S fl (show j+1≤i from h1);rw [z5T hj] at this;omega
theorem rkf_lt {fl:Fl} {i:Nat} (hi:fl[i]? = some none):rkf fl i<rkf fl fl.length:=by
 have:=z5S fl (show i+1≤fl.length from (List.getElem?_eq_some_iff.1 hi).1)
 rw [z5T hi] at this;omega
theorem z4R : ∀ {l:List Oper} {fl:Fl} (i:Nat),fl.length=l.length→wct ((l.zip fl).take i)=rkf fl i
 | [],[],i,_=>by simp [wct,rkf]
 | [],_ :: _,i,h=>by simp at h
 | _ :: _,[],i,h=>by simp at h
 | o :: l,f :: fl,0,h=>by simp [wct,rkf]
 | o :: l,f :: fl,i+1,h=>by
  have:=z4R (l:=l) (fl:=fl) i (by simpa using h)
  simp only [wct,rkf] at this ⊢
  simp [List.countP_cons,this]
theorem z1j {l:List Oper} {fl:Fl} {i:Nat} {o:Oper} {f:Option (Nat × Nat)} (h:(l.zip fl)[i]? = some (o,f)):l[i]? = some o∧fl[i]? = some f:=by
 rw [List.getElem?_zip_eq_some] at h;exact h
theorem fit_of {l:List Oper} {fl:Fl} {size:Nat} (h:z8y l fl size=true):Fit l.toArray (l.zip fl):=by
 refine ⟨fun i j a b ha hb hij t ht e=>?_,fun i j a b d ha hb hij hd e=>?_,fun a ha hs=>?_⟩
 ·obtain ⟨o,f⟩:=a
  obtain ⟨o',f'⟩:=b
  obtain ⟨h1,h2⟩:=z1j ha
  obtain ⟨h3,h4⟩:=z1j hb
  obtain ⟨f2,hf2,hc⟩:=z18 h h1
  simp only [z2B,Bool.and_eq_true,List.all_eq_true,List.mem_range] at hc
  have:=(hc.2.2.1 t ht).2 j (List.getElem?_eq_some_iff.1 h3).1
  simp only [Bool.or_eq_true,h3] at this
  rcases this with h5|h5
  ·simp at h5;exact h5 e
  ·obtain ⟨o2,ed,e1,e2,e3,e4⟩:=z0P h5
   have e1' : l[i]? = some o2:=by simpa using e1
   rw [h1] at e1';cases e1'
   have:=Array.all_eq_true_iff_forall_mem.1 hc.2.1 ed e2
   simp only [e3,Bool.not_true,Bool.false_or,decide_eq_true_eq] at this
   omega
 ·obtain ⟨o,f⟩:=a
  obtain ⟨o',f'⟩:=b
  obtain ⟨h1,h2⟩:=z1j ha
  obtain ⟨h3,h4⟩:=z1j hb
  obtain ⟨f2,hf2,hc⟩:=z18 h h1
  simp only [z2B,Bool.and_eq_true,List.all_eq_true,List.mem_range] at hc
  have:=hc.2.2.2.1 j (List.getElem?_eq_some_iff.1 h3).1
  simp only at hd e
  simp [h3,hd,e] at this
  omega
 ·obtain ⟨i,hi⟩:=List.mem_iff_getElem?.1 ha
  obtain ⟨o,f⟩:=a
  obtain ⟨h1,h2⟩:=z1j hi
  obtain ⟨f2,hf2,hc⟩:=z18 h h1
  rw [h2] at hf2;cases hf2
  simp only [z2B,Bool.and_eq_true] at hc
  have h3:=hc.1
  split at h3
  ·rename_i d hd;exact ⟨d,hd⟩
  ·cases f with
   | none=>cases hs
   | some f=>cases h3
def known (l:List Oper) (listed:Array Bool) (t:Nat):Bool:=(List.range l.length).all fun i=>((l[i]?).bind (·.dst)) != some t||listed.getD i false
def frL (n:Nat) (g:Nat→AV):List (Nat × AV):=(List.range n).map fun t=>(t,g t)
theorem z8C (n:Nat) (g:Nat→AV) (t:Nat):(frL n g).lookup t=if t<n then some (g t) else none:=by
 have : ∀ l:List Nat,(l.map fun t=>(t,g t)).lookup t=if t ∈ l then some (g t) else none:=by
  intro l
  induction l with
  | nil=>rfl
  | cons k r ih =>
   by_cases e:t=k
   ·subst e;simp
   ·rw [List.map_cons,zo e,ih];simp [e]
 rw [frL,this];simp
theorem z8J {α:Type} (l r:List (Nat × α)) (t:Nat):(l++r).lookup t=(l.lookup t).or (r.lookup t):=by
 induction l with
 | nil=>rfl
 | cons p l ih =>
  obtain ⟨k,x⟩:=p
  by_cases e:t=k
  ·subst e;rw [List.cons_append,zB,zB];rfl
  ·rw [List.cons_append,zo e,zo e,ih]
def midS (l:List Oper) (fin:ASt) (listed:Array Bool) (h:Hp × Nat):ASt:=⟨frL fin.n (fun t=>if known l listed t=true then fin.get t else .zy)++fin.fr,h.1,fin.n,h.2⟩
theorem z0y (l:List Oper) (fin:ASt) (listed:Array Bool) (h:Hp × Nat) (t:Nat):(midS l fin listed h).get t=if t<fin.n∧known l listed t=false then .zy else fin.get t:=by
 show ((frL _ _++fin.fr).lookup t).getD .zy=_
 rw [z8J,z8C]
 by_cases h1:t<fin.n
 ·by_cases h2:known l listed t=true <;> simp [h1,h2]
 ·simp [h1];rfl
theorem z6q {l:List Oper} {listed:Array Bool} {i t:Nat} {o:Oper} (ho:l[i]? = some o) (hi:i<listed.size) (h:known l (listed.setIfInBounds i true) t=true) (hd:o.dst ≠ some t):known l listed t=true:=by
 simp only [known,List.all_eq_true,List.mem_range,Bool.or_eq_true] at h ⊢
 intro j hj
 rcases h j hj with h1|h1
 ·exact .inl h1
 ·by_cases e:i=j
  ·subst e;left;simpa [ho] using hd
  ·rw [getD_set_ne false e] at h1;exact .inr h1
theorem T.comm {F:Fence} [FOk F] {P:Program} {Q:Exit→ASt→Prop} {s:ASt} {id:Nat} {l:List Oper} (fl:Fl) (hm:P.follows .mixedOrders=true) (hB:(z1r l&&z8y l fl s.n)=true) (h : ∀ K:ASt→Prop,(∀ s,Q .normal s→K s)→WC P (l.map (·.dst)) K (l.zip fl) [] [] s):T F P (.region id l.toArray true) Q s:=fun L loc a w hr=>by
 obtain ⟨hnd,hB⟩:=Bool.and_eq_true_iff.1 hB
 refine wpIn_mono (wpIn_region_any hm (z3G NQ.out (z0i hnd) _ _ _ _ ?_)) fun _ _ _ k=>NQ.post k
 change wpAny P .any l.toArray (z0r L loc w (NQ Q)) _ _ a w.drew
 have hfit:=fit_of hB
 have hlen:fl.length=l.length:=by simp only [z8y,Bool.and_eq_true,decide_eq_true_eq] at hB;exact hB.1
 have hsz:l.toArray.size=l.length:=by simp
 have hgd : ∀ x ∈ l.zip fl,x.2=none→x.1.guard=none:=fun x hx hn=>by
  obtain ⟨i,hi⟩:=List.mem_iff_getElem?.1 hx
  obtain ⟨o,f⟩:=x
  obtain ⟨h1,h2⟩:=z1j hi
  obtain ⟨f2,hf2,hc⟩:=z18 hB h1
  rw [h2] at hf2;cases hf2
  simp only at hn;subst hn
  simp only [z2B,Bool.and_eq_true] at hc
  simpa using hc.2.2.2.2.1
 obtain ⟨fin,hps,hq,ho⟩:=WC.out (ops:=l.toArray) (l.zip fl) [] [] s hfit (by simpa using h _ fun _ h=>h) (fun p hp=>(by cases hp)) hgd
 obtain ⟨tl,hmem,htl⟩:=ho.mem
 simp only [List.nil_append] at hmem
 have hm' : wct (l.zip fl)=rkf fl fl.length:=by
  have:=z4R (l:=l) (fl:=fl) fl.length hlen
  rw [List.take_of_length_le (by simp;omega)] at this
  exact this
 have hpl:hps.length=rkf fl fl.length+1:=by rw [hmem];simp [htl,hm']
 have hn:fin.n=s.n:=ho.n
 -- what a ready operation knows
 have ready : ∀ {listed:Array Bool} {i k:Nat},i ∈ Region.ready .any l.toArray listed→z1p l.toArray i k=true→listed.getD k false=true:=by
  intro listed i k hi he
  obtain ⟨o,e,h1,h2,h3,h4⟩:=z0P he
  obtain ⟨_,o',ho',hall⟩:=mem_ready.1 hi
  rw [h1] at ho';cases ho'
  rw [← h4];exact hall e h2 h3
 let I:Array Bool→Act→World→Prop:=fun listed a' w' => ∃ (j:Nat) (hj:Hp × Nat) (loc' : Nat→Option Value),listed.size=l.length∧(∀ i k,listed.getD i false=true→z1p l.toArray i k=true→listed.getD k false=true)∧j≤rkf fl fl.length ∧
  (∀ i,fl[i]? = some none→(listed.getD i false=true↔rkf fl i<j))∧hps[j]? = some hj∧Rel All L (midS l fin listed hj) loc' a' w' ∧ Ext loc w loc' w'
 have looks : ∀ {listed:Array Bool} {i:Nat} {o:Oper} {hj:Hp × Nat},l[i]? = some o→i ∈ Region.ready .any l.toArray listed → ∀ t ∈ o.looksAt l.toArray,(midS l fin listed hj).get t=fin.get t:=by
  intro listed i o hj hio hi t ht
  obtain ⟨f,hf,hc⟩:=z18 hB hio
  simp only [z2B,Bool.and_eq_true,List.all_eq_true,List.mem_range] at hc
  obtain ⟨h1,h2⟩:=hc.2.2.1 t ht
  have hk:known l listed t=true:=by
   simp only [known,List.all_eq_true,List.mem_range,Bool.or_eq_true]
   intro k hk
   have:=h2 k hk
   simp only [Bool.or_eq_true] at this
   exact this.imp (fun h=>h) (fun he=>ready hi he)
  rw [z0y,if_neg (by rw [hk];simp)]
 have dsts : ∀ {i:Nat} {o:Oper} {d:Nat},l[i]? = some o→o.dst=some d→d<s.n:=by
  intro i o d hio hd
  obtain ⟨f,hf,hc⟩:=z18 hB hio
  simp only [z2B,Bool.and_eq_true] at hc
  have:=hc.1
  rw [hd] at this
  simpa using this
 -- listed goes on being closed
 have closed : ∀ {listed:Array Bool} {i:Nat},listed.size=l.length→i<l.length→(∀ i k,listed.getD i false=true→z1p l.toArray i k=true→listed.getD k false=true)→i ∈ Region.ready .any l.toArray listed → ∀ x k,(listed.setIfInBounds i true).getD x false=true→z1p l.toArray x k=true→(listed.setIfInBounds i true).getD k false=true:=by
  intro listed i hs hi hc hrd x k hx he
  by_cases e:i=x
  ·subst e;exact getD_set_true (ready hrd he)
  ·rw [getD_set_ne false e] at hx;exact getD_set_true (hc x k hx he)
 -- the frame after an operation
 have frame : ∀ {listed:Array Bool} {i:Nat} {o:Oper} {hj:Hp × Nat} {av:AV},l[i]? = some o→i<listed.size→av=dav o fin → ∀ t,(midS l fin (listed.setIfInBounds i true) hj).get t = .zy∨(midS l fin (listed.setIfInBounds i true) hj).get t=((midS l fin listed hj).put o.dst av).get t:=by
  intro listed i o hj av hio hi hav t
  rw [z0y]
  split
  ·left;rfl
  ·rename_i hk
   right
   have old:o.dst ≠ some t→(midS l fin listed hj).get t=fin.get t:=fun hd=>by
    rw [z0y,if_neg]
    rintro ⟨h1,h2⟩
    refine hk ⟨h1,?_⟩
    cases h3:known l (listed.setIfInBounds i true) t with
    | false=>rfl
    | true=>rw [z6q hio hi h3 hd] at h2;cases h2
   cases hd:o.dst with
   | none=>exact (old (by rw [hd];intro e;cases e)).symm
   | some d =>
    rw [ASt.get_put]
    split
    ·rename_i e;rw [e,hav];simp [dav,hd]
    ·rename_i e
     exact (old (by rw [hd];intro e';cases e';exact e rfl)).symm
 have toMid : ∀ {listed:Array Bool} {i:Nat} {o:Oper} {hj:Hp × Nat} {av:AV} {loc' : Nat→Option Value} {a' : Act} {w' : World},l[i]? = some o→i<listed.size→av=dav o fin→Rel All L ((midS l fin listed hj).put o.dst av) loc' a' w' → Rel All L (midS l fin (listed.setIfInBounds i true) hj) loc' a' w':=by
  intro listed i o hj av loc' a' w' hio hi hav hrel
  have hput : ∀ (s:ASt) (d:Option Nat) (x:AV),(s.put d x).hp=s.hp∧(s.put d x).n=s.n∧(s.put d x).N=s.N:=fun s d x=>by cases d <;> exact ⟨rfl,rfl,rfl⟩
  obtain ⟨p1,p2,p3⟩:=hput (midS l fin listed hj) o.dst av
  refine ⟨hrel.defers,hrel.size.trans p2,fun t ht=>?_,by have:=hrel.hp;rw [p1,p3] at this;exact this⟩
  have h1:=hrel.fr t trivial
  rw [p3] at h1
  rcases frame (hj:=hj) hio hi hav t with e|e
  ·rw [e];exact .zy _
  ·rw [e];exact h1
 refine (fun start step done=>z4S I step done _ _ _ _ (by simp [left]) start) ?_ ?_ ?_
 ·-- the start
  refine ⟨0,(s.hp,s.N),loc,by simp,fun i k hi=>(by rw [getD_replicate_false] at hi;cases hi),Nat.zero_le _,fun i _=>⟨fun hi=>(by rw [getD_replicate_false] at hi;cases hi),fun hi=>absurd hi (Nat.not_lt_zero _)⟩,by rw [hmem];rfl,?_,.of_below (Blw.refl _ _).drew⟩
  have hrd:=hr.below (Blw.refl _ _).drew
  refine ⟨hrd.defers,hrd.size.trans hn.symm,fun t _=>?_,hrd.hp⟩
  rw [z0y]
  split
  ·exact .zy _
  ·rename_i hk
   rw [ho.out t (fun e he hd=>?_)]
   ·exact hrd.fr t trivial
   ·obtain ⟨i,hi⟩:=List.mem_iff_getElem?.1 he
    obtain ⟨o,f⟩:=e
    obtain ⟨h1,h2⟩:=z1j hi
    simp only at hd
    refine hk ⟨by rw [hn];exact dsts h1 hd,?_⟩
    cases h3:known l (Array.replicate l.toArray.size false) t with
    | false=>rfl
    | true =>
     simp only [known,List.all_eq_true,List.mem_range,Bool.or_eq_true] at h3
     rcases h3 i (List.getElem?_eq_some_iff.1 h1).1 with h3|h3
     ·simp [h1,hd] at h3
     ·rw [getD_replicate_false] at h3;cases h3
 ·-- a step
  intro listed a' w' i ⟨j,hj,loc',hsl,hcl,hjm,hwr,hhj,hrel,hext⟩ hrdy
  obtain ⟨hun,o,hio',hall⟩:=mem_ready.1 hrdy
  have hio:l[i]? = some o:=by simpa using hio'
  have hil:i<l.length:=(List.getElem?_eq_some_iff.1 hio).1
  have hun' : ¬ listed.getD i false=true:=fun e=>by
   have hlt:i<listed.size:=by omega
   simp [hlt] at e hun;rw [e] at hun;cases hun
  obtain ⟨f,hf,hc⟩:=z18 hB hio
  have hzip:(l.zip fl)[i]? = some (o,f):=by rw [List.getElem?_zip_eq_some];exact ⟨hio,hf⟩
  simp only [z2B,Bool.and_eq_true,List.all_eq_true] at hc
  obtain ⟨_,_,_,_,hc5⟩:=hc
  have hlk:=looks (hj:=hj) hio hrdy
  unfold wpOp
  rw [hio']
  cases f with
  | some lh =>
   obtain ⟨lo,hi⟩:=lh
   simp only [Bool.and_eq_true,Bool.or_eq_true,decide_eq_true_eq,List.any_eq_true,List.mem_range,beq_iff_eq] at hc5
   obtain ⟨c1,c2⟩:=hc5
   have hlo:lo≤j:=by
    rcases c1 with c1|⟨k,_,k1,k2,k3⟩
    ·omega
    ·have:=(hwr k (z1i k1)).1 (ready hrdy k3)
     omega
   have hhi:j≤hi:=by
    rcases c2 with c2|⟨k,_,k1,k2,k3⟩
    ·omega
    ·refine Nat.le_of_not_lt fun hlt=>hun' (hcl k i ((hwr k (z1i k1)).2 (by omega)) k3)
   obtain ⟨d,hd⟩:=hfit.dst _ (List.mem_of_getElem? hzip) rfl
   simp only at hd
   have hgok:=ho.val i o lo hi hzip d hd j hj hlo hhi hhj
   have hrl:Rel (Go.Proofs.YtbkkginjfnjffaaGreatDoor.looks l.toArray o) L ⟨fin.fr,hj.1,fin.n,hj.2⟩ loc' a' w':=⟨hrel.defers,hrel.size,fun t ht=>by have:=hrel.fr t trivial;rw [hlk t ht] at this;exact this,hrel.hp⟩
   have after : ∀ {v:Value} {w2:World},Blw w'.heap.size w' w2→AR hj.2 (Dm L loc') loc' w2 (fin.get d) v→I (listed.setIfInBounds i true) (a'.put o.dst v) w2:=by
    intro v w2 hb hav
    refine ⟨j,hj,loc',by simpa using hsl,closed hsl hil hcl hrdy,hjm,fun k hk=>?_,hhj,?_,hext.trans (.of_below hb)⟩
    ·have hne:i ≠ k:=fun e=>by subst e;rw [hf] at hk;cases hk
     rw [getD_set_ne false hne];exact hwr k hk
    ·refine toMid (av:=fin.get d) hio (by omega) (by simp [dav,hd]) ?_
     exact (hrel.below hb).put' (fun t ht=>by show t<fin.n;rw [hn];exact dsts hio ht) hav
   unfold GOK at hgok
   split at hgok
   ·rename_i hg
    have hw:Region.wanted o (yielded l.toArray a'.tmps)=true:=by simp [Region.wanted,hg]
    simp only [hw,if_true]
    refine .inl ?_
    unfold Oper.wp
    rcases hgok L loc' a' w' hrl with ⟨v,w2,h1,h2,h3⟩|⟨g,args,h1,h2⟩
    ·rw [h1];exact after h2 h3
    ·rw [h1]
     refine h2.mono fun e w2 ⟨v,he,hb,hav⟩=>?_
     subst he
     exact after hb hav
   ·rename_i g want hg
    rcases hgok with ⟨t,b,ht,hb,h3,h4⟩|⟨t,ht,hb,h4⟩
    rotate_left
    ·have htm:t ∈ o.looksAt l.toArray:=List.mem_append.2 (.inr (by rw [hg];simp only [ht];simp))
     have hw:=z3D hrl htm hg ht hb
     simp only [hw,Bool.false_eq_true,if_false]
     exact after (Blw.refl _ _) (by rw [h4];exact .tup [] #[] rfl (fun j x hx=>by simp at hx))
    have htm:t ∈ o.looksAt l.toArray:=List.mem_append.2 (.inr (by rw [hg];simp only [ht];simp))
    have hbt:=z0Q hrl (t:=t) (b:=b) htm hb
    have hwt:Region.wanted o (yielded l.toArray a'.tmps)=(b==want):=by
     simp only [Region.wanted,hg,yielded,ht,hbt,Option.bind_some]
     cases b <;> cases want <;> rfl
    by_cases e:b=want
    ·have hw:Region.wanted o (yielded l.toArray a'.tmps)=true:=by rw [hwt];simpa using e
     simp only [hw,if_true]
     refine .inl ?_
     unfold Oper.wp
     rcases h3 e L loc' a' w' hrl with ⟨v,w2,h1,h2,h3⟩|⟨g,args,h1,h2⟩
     ·rw [h1];exact after h2 h3
     ·rw [h1]
      refine h2.mono fun e w2 ⟨v,he,hb,hav⟩=>?_
      subst he
      exact after hb hav
    ·have hw:Region.wanted o (yielded l.toArray a'.tmps)=false:=by rw [hwt];simpa using e
     simp only [hw,Bool.false_eq_true,if_false]
     exact after (Blw.refl _ _) (by rw [h4 e];exact .tup [] #[] rfl (fun j x hx=>by simp at hx))
  | none =>
   simp only [Bool.and_eq_true,Bool.or_eq_true,decide_eq_true_eq,List.any_eq_true,List.mem_range,beq_iff_eq] at hc5
   obtain ⟨c1,c2⟩:=hc5
   have hge : ¬ rkf fl i<j:=fun e=>hun' ((hwr i hf).2 e)
   have hj' : rkf fl i=j:=by
    rcases c2 with c2|⟨k,_,k1,k2,k3⟩
    ·omega
    ·have hk3:listed.getD k false=true:=by
      simp only [z7K,Bool.or_eq_true,List.any_eq_true,Bool.and_eq_true] at k3
      rcases k3 with k3|⟨j',_,j1,j2⟩
      ·exact ready hrdy k3
      ·exact hcl j' k (ready hrdy j1) j2
     have:=(hwr k (z1i k1)).1 hk3
     omega
   obtain ⟨h1,h2,e1,e2,hwe⟩:=ho.wr i o hzip
   rw [z4R i hlen] at e1 e2
   simp only [List.length_nil,Nat.zero_add,hj'] at e1 e2
   rw [hhj] at e1;cases e1
   have hg:o.guard=none:=by simpa using c1
   have hw:Region.wanted o (yielded l.toArray a'.tmps)=true:=by simp [Region.wanted,hg]
   simp only [hw,if_true]
   refine .inl ?_
   have:=hwe (midS l fin listed hj) rfl rfl rfl hlk (fun t ht=>by show t<fin.n;rw [hn];exact dsts hio ht) L loc' a' w' hrel
   refine z2f (fun a2 w2 ⟨loc2,hr2,hx2⟩=>?_) (fun _ _ _ h=>h.elim) this
   refine ⟨j+1,h2,loc2,by simpa using hsl,closed hsl hil hcl hrdy,by have:=rkf_lt hf;omega,fun k hk=>?_,e2,?_,hext.trans hx2⟩
   ·by_cases e:i=k
    ·subst e
     have hlt:i<listed.size:=by omega
     simp [hlt];omega
    ·rw [getD_set_ne false e,hwr k hk]
     have:rkf fl k ≠ j:=fun e'=>e (rkf_inj hf hk (hj'.trans e'.symm))
     omega
   ·exact toMid (av:=dav o fin) hio (by omega) rfl hr2
 ·-- the end
  intro listed a' w' ⟨j,hj,loc',hsl,hcl,hjm,hwr,hhj,hrel,hext⟩ hnil
  have all : ∀ i,i<l.length→listed.getD i false=true:=by
   intro i
   induction i using Nat.strongRecOn with
   | _ i ih =>
    intro hil
    refine Classical.byContradiction fun hno=>?_
    have hio:l[i]? = some l[i]:=List.getElem?_eq_getElem hil
    obtain ⟨f,hf,hc⟩:=z18 hB hio
    simp only [z2B,Bool.and_eq_true] at hc
    have hmr:i ∈ Region.ready .any l.toArray listed:=by
     refine mem_ready.2 ⟨?_,l[i],by simp,fun e he hb=>?_⟩
     ·have hlt:i<listed.size:=by omega
      simp [hlt] at hno ⊢;exact hno
     ·have:=Array.all_eq_true_iff_forall_mem.1 hc.2.1 e he
      simp only [hb,Bool.not_true,Bool.false_or,decide_eq_true_eq] at this
      exact ih e.on this (by omega)
    rw [hnil] at hmr;cases hmr
  have hjl:j=rkf fl fl.length:=by
   simp only [z8y,Bool.and_eq_true,Bool.or_eq_true,decide_eq_true_eq,List.any_eq_true,List.mem_range,beq_iff_eq] at hB
   rcases hB.2.1 with h0|⟨i,h1,h2,h3⟩
   ·omega
   ·have:=(hwr i (z1i h2)).1 (all i (by omega))
    omega
  have hlast:hj=(fin.hp,fin.N):=by
   have h1:=ho.last
   rw [List.getLast?_eq_getElem?,hpl] at h1
   rw [hjl] at hhj
   simp only [Nat.add_sub_cancel] at h1
   rw [h1] at hhj
   exact (Option.some.inj hhj).symm
  subst hlast
  refine .of (s':=fin) (loc':=loc') ⟨rfl,hq⟩ ⟨hrel.defers,hrel.size,fun t _=>?_,hrel.hp⟩ hext
  have hk:known l listed t=true:=by
   simp only [known,List.all_eq_true,List.mem_range,Bool.or_eq_true]
   exact fun i hi => .inr (all i hi)
  have h1:=hrel.fr t trivial
  rw [z0y,if_neg (by rw [hk];simp)] at h1
  exact h1
def WCg (P:Program) (ds:List (Option Nat)) (N:List Pend→ASt→Prop) (o:Oper) (lo hi:Nat) (pend:List Pend) (prev:List (Hp × Nat)) (s:ASt):Prop:=match o.guard with
  | none=>WOv P o s fun s'=>WCv P N pend prev o lo hi s s'
  | some (g,want)=>match ds[g]? with
   | some (some t)=>match s.get t with
    | .p (.val (.bool b))=>WG b want (WOv P o (s.put (some t) (.bool want)) fun s'=>WCv P N pend prev o lo hi (s.put (some t) (.bool want)) s') (N pend ((s.put (some t) (.bool (!want))).put o.dst (.tup [])))
    | .tup []=>N pend (s.put o.dst (.tup []))
    | _=>False
   | _=>False
theorem WC.z0O {P:Program} {ds:List (Option Nat)} {Q:ASt→Prop} {o:Oper} {lo hi:Nat} {r:El} {pend:List Pend} {prev:List (Hp × Nat)} {s:ASt} (h : ∀ K:List Pend→ASt→Prop,(∀ pd s,WC P ds Q r pd prev s→K pd s)→WCg P ds K o lo hi pend prev s):WC P ds Q ((o,some (lo,hi)) :: r) pend prev s:=h _ fun _ _ h=>h
theorem WC.stepW {P:Program} {ds:List (Option Nat)} {Q:ASt→Prop} {o:Oper} {r:El} {pend:List Pend} {prev:List (Hp × Nat)} {s:ASt} (h : ∀ K:ASt→Prop,(∀ s',WC P ds Q r pend (prev ++ [(s.hp,s.N)]) s' → K s')→WOw P o s fun s'=>allP pend (fun p=>prev.length<p.2.1→Chk P p.1 { s with hp:=s'.hp,N:=s'.N } p.2.2)∧K s'):WC P ds Q ((o,none) :: r) pend prev s:=h _ fun _ h=>h
theorem WC.fin {P:Program} {ds:List (Option Nat)} {Q:ASt→Prop} {pend:List Pend} {prev:List (Hp × Nat)} {s:ASt} (h:Q s):WC P ds Q [] pend prev s:=h
theorem zl {P:Program} {s:ASt} {f:FuncId} {xs:List AV} {K:AV→Prop} {r:AV} {B:Prop} (h:CallV P s f xs r) (k:K r):(∃ r,CallV P s f xs r∧K r)∨B := .inl ⟨r,h,k⟩
theorem qg {P:Program} {s:ASt} {f:FuncId} {xs:List AV} {d:Option Nat} {K:ASt→Prop} {A:Prop} (n:Nat) (hp:Hp) (Q:Hp→AV→Prop) (ks:List Nat) (h1:Ent P f) (h2:MemC P f n hp xs Q) (h3:Passes s n hp) (h4:(xs.all (·.okB n))=true) (h5 : ∀ hp' r,Q hp' r→(∀ t ∈ ks,t<n→Kept hp hp' t)∧K ((s.qh n ks hp').put d r)):A∨z3S P s f xs d K := .inr (.inl ⟨n,hp,Q,ks,h1,h2,h3,h4,h5⟩)
theorem z7H {P:Program} {s:ASt} {f:FuncId} {xs:List AV} {d:Option Nat} {K:ASt→Prop} {A:Prop} (n:Nat) (hp:Hp) (Q:Hp→AV→Prop) (ks:List Nat) (h1:Ent P f) (h2:MemK P f n hp xs Q) (h3:Passes s n hp) (h4:(xs.all (·.okB n))=true) (h5 : ∀ hp' r,Q hp' r→K ((s.qh n ks hp').put d r)):A∨z3S P s f xs d K := .inr (.inr (.inr ⟨n,hp,Q,ks,h1,h2,h3,h4,h5⟩))
theorem zn {P:Program} {s:ASt} {f:FuncId} {xs:List AV} {K:AV→Prop} {r:AV} (h:CallV P s f xs r) (k:K r) : ∃ r,CallV P s f xs r∧K r:=⟨r,h,k⟩
def AV.ren (t t' : Nat):AV→AV
 | .own k=>if k=t then .own t' else if k=t' then .zy else .own k
 | .ptr k j=>if k=t then .ptr t' j else if k=t' then .zy else .ptr k j
 | .rptr k n i j=>if k=t then .rptr t' n i j else if k=t' then .zy else .rptr k n i j
 | .pre k j=>if k=t then .pre t' j else if k=t' then .zy else .pre k j
 | .suf k n j=>if k=t then .suf t' n j else if k=t' then .zy else .suf k n j
 | .fn f cs => .fn f (cs.attach.map fun ⟨c,_⟩=>AV.ren t t' c)
 | .agg cs => .agg (cs.attach.map fun ⟨c,_⟩=>AV.ren t t' c)
 | .tup cs => .tup (cs.attach.map fun ⟨c,_⟩=>AV.ren t t' c)
 | x=>x
theorem AV.zZ (t t' k:Nat):AV.ren t t' (.own k)=if k=t then .own t' else if k=t' then .zy else .own k:=by simp [AV.ren]
theorem AV.zG (t t' k j:Nat):AV.ren t t' (.ptr k j)=if k=t then .ptr t' j else if k=t' then .zy else .ptr k j:=by simp [AV.ren]
theorem AV.qd (t t' k n i j:Nat):AV.ren t t' (.rptr k n i j)=if k=t then .rptr t' n i j else if k=t' then .zy else .rptr k n i j:=by simp [AV.ren]
theorem AV.ren_suf (t t' k n j:Nat):AV.ren t t' (.suf k n j)=if k=t then .suf t' n j else if k=t' then .zy else .suf k n j:=by simp [AV.ren]
theorem AV.qw (t t' k j:Nat):AV.ren t t' (.pre k j)=if k=t then .pre t' j else if k=t' then .zy else .pre k j:=by simp [AV.ren]
theorem AV.zW (t t' : Nat) (x:PV):AV.ren t t' (.p x) = .p x:=by simp [AV.ren]
theorem AV.zF (t t' : Nat) (r:List PV) (k:Nat):AV.ren t t' (.elt r k) = .elt r k:=by simp [AV.ren]
theorem AV.zA (t t' : Nat):AV.ren t t' .zy = .zy:=by simp [AV.ren]
theorem AV.qc (t t' : Nat):AV.ren t t' .cap0 = .cap0:=by simp [AV.ren]
theorem AV.qO (t t' : Nat) (f:Fn) (cs:List AV):AV.ren t t' (.fn f cs) = .fn f (cs.map (AV.ren t t')):=by simp [AV.ren]
theorem AV.zD (t t' : Nat) (cs:List AV):AV.ren t t' (.agg cs) = .agg (cs.map (AV.ren t t')):=by simp [AV.ren]
theorem AV.qx (t t' : Nat) (cs:List AV):AV.ren t t' (.tup cs) = .tup (cs.map (AV.ren t t')):=by simp [AV.ren]
theorem AR.ren {N:Nat} {D:Nat→Prop} {loc loc' : Nat→Option Value} {w:World} {t t' : Nat} {x:AV} {v:Value} (h:AR N D loc w x v) {D' : Nat→Prop} (hD : ∀ k,D' k→D k) (ht' : t' < N) (h0:loc' t' = loc t) (h1 : ∀ k u,k ≠ t→k ≠ t' → loc' k=some u→loc k=some u):AR N D' loc' w (AV.ren t t' x) v:=by
 induction h with
 | p x v h=>rw [AV.zW];exact .p x v (h.mono (Kp.refl _ _) fun k _ h=>hD k h)
 | elt row off b o f hb hnD hc hr=>rw [AV.zF];exact .elt row off b o f hb (fun h=>hnD (hD _ h)) hc fun j x h=>(hr j x h).mono (Kp.refl _ _) fun k _ h=>hD k h
 | ptr k off v ht g h =>
  rw [AV.zG]
  split
  ·rename_i e;subst e;exact .ptr t' off v ht' g fun b hb=>h b (h0 ▸ hb)
  ·rename_i e;split
   ·exact .zy _
   ·rename_i e';exact .ptr k off v ht g fun b hb=>h b (h1 k _ e e' hb)
 | rptr k n i off v ht g h =>
  rw [AV.qd]
  split
  ·rename_i e;subst e;exact .rptr t' n i off v ht' g fun b l c hb=>h b l c (h0 ▸ hb)
  ·rename_i e;split
   ·exact .zy _
   ·rename_i e';exact .rptr k n i off v ht g fun b l c hb=>h b l c (h1 k _ e e' hb)
 | own k v ht g h =>
  rw [AV.zZ]
  split
  ·rename_i e;subst e;exact .own t' v ht' g fun u hu=>h u (h0 ▸ hu)
  ·rename_i e;split
   ·exact .zy _
   ·rename_i e';exact .own k v ht g fun u hu=>h u (h1 k _ e e' hu)
 | suf k n j v ht g h =>
  rw [AV.ren_suf]
  split
  ·rename_i e;subst e;exact .suf t' n j v ht' g fun b l c hb=>h b l c (h0 ▸ hb)
  ·rename_i e;split
   ·exact .zy _
   ·rename_i e';exact .suf k n j v ht g fun b l c hb=>h b l c (h1 k _ e e' hb)
 | pre k j v ht g h =>
  rw [AV.qw]
  split
  ·rename_i e;subst e;exact .pre t' j v ht' g fun b l c hb=>h b l c (h0 ▸ hb)
  ·rename_i e;split
   ·exact .zy _
   ·rename_i e';exact .pre k j v ht g fun b l c hb=>h b l c (h1 k _ e e' hb)
 | fn f caps vs hlen _ ih =>
  rw [AV.qO]
  refine .fn f _ vs (by simpa using hlen) fun j x hx=>?_
  simp only [List.getElem?_map,Option.map_eq_some_iff] at hx
  obtain ⟨c,hc,rfl⟩:=hx
  exact ih j c hc
 | agg cs vs hlen _ h1 ih =>
  rw [AV.zD]
  refine .agg _ vs (by simpa using hlen) (fun j x hx=>?_) h1
  simp only [List.getElem?_map,Option.map_eq_some_iff] at hx
  obtain ⟨c,hc,rfl⟩:=hx
  exact ih j c hc
 | tup cs vs hlen _ ih =>
  rw [AV.qx]
  refine .tup _ vs (by simpa using hlen) fun j x hx=>?_
  simp only [List.getElem?_map,Option.map_eq_some_iff] at hx
  obtain ⟨c,hc,rfl⟩:=hx
  exact ih j c hc
 | cap0 a h=>rw [AV.qc];exact .cap0 a fun x hx=>⟨(h x hx).1,fun hd=>(h x hx).2.1 (hD _ hd),(h x hx).2.2⟩
 | zy v=>rw [AV.zA];exact .zy v
def AO.ren (t t' : Nat):AO→AO
 | .boxP pin ty cs => .boxP pin ty (cs.map (AV.ren t t'))
 | .row e n rows => .row e n rows
 | .map pin P k n f => .map pin P k n f
 | .raw u ob => .raw u ob
 | .lrec l sp fr => .lrec l sp (fr.map fun p=>(p.1,AV.ren t t' p.2))
 | .amap P k n f q => .amap P k n (fun l=>(f l).map (AV.ren t t')) q
 | .arow e cs => .arow e (cs.map (AV.ren t t'))
 | .afix e m9 len cs => .afix e m9 len (cs.map (AV.ren t t'))
def ASt.ren (s:ASt) (t t' : Nat):ASt:=match s.hp.lookup t with
 | some o=>if t' < s.N∧t ≠ t' then { s with fr:=s.fr.map fun p=>(p.1,p.2.ren t t'),hp:=(t',o.ren t t') :: (s.hp.filter fun p=>p.1 != t&&p.1 != t').map fun p=>(p.1,p.2.ren t t') } else s
 | none=>s
theorem z2D {α:Type} (l:List (Nat × α)) (t t' k:Nat):(l.filter fun p=>p.1 != t&&p.1 != t').lookup k=if k=t∨k=t' then none else l.lookup k:=by
 induction l with
 | nil=>simp
 | cons p r ih =>
  obtain ⟨j,x⟩:=p
  by_cases ek:k=j
  ·subst ek
   by_cases h:k=t∨k=t'
   ·rw [if_pos h,List.filter_cons,if_neg (by simp;intro h1;exact h.resolve_left h1),ih,if_pos h]
   ·rw [if_neg h,List.filter_cons,if_pos (by simp;exact ⟨fun e=>h (.inl e),fun e=>h (.inr e)⟩),zB,zB]
  ·rw [zo ek,← ih,List.filter_cons]
   split
   ·rw [zo ek]
   ·rfl
theorem zi.ren (s:ASt) (t t' : Nat):zi s (s.ren t t'):=by
 unfold ASt.ren
 split
 ·rename_i o hlk
  split
  ·rename_i hc
   obtain ⟨ht',hne⟩:=hc
   intro L loc a w hr
   let loc' : Nat→Option Value:=fun k=>if k=t' then loc t else if k=t then none else loc k
   have l0:loc' t' = loc t:=by simp [loc']
   have l1 : ∀ k u,loc' k=some u→(k=t' ∧ loc t=some u)∨(k ≠ t∧k ≠ t' ∧ loc k=some u):=fun k u h=>by
    simp only [loc'] at h
    split at h
    ·rename_i e;exact .inl ⟨e,h⟩
    ·rename_i e;split at h
     ·cases h
     ·rename_i e2;exact .inr ⟨e2,e,h⟩
   have hD : ∀ M:Nat→Prop,∀ k,Dm M loc' k→Dm M loc k:=fun M k h=>h.imp id fun ⟨k',z,h1,h2⟩=>by
    rcases l1 k' z h1 with ⟨_,h3⟩|⟨_,_,h3⟩
    ·exact ⟨t,z,h3,h2⟩
    ·exact ⟨k',z,h3,h2⟩
   have har : ∀ {x:AV} {v:Value},AR s.N (Dm L loc) loc w x v→AR s.N (Dm L loc') loc' w (x.ren t t') v:=fun h=>h.ren (hD L) ht' l0 fun k u e1 e2 hu=>by
    rcases l1 k u hu with ⟨e,_⟩|⟨_,_,h⟩
    ·exact absurd e e2
    ·exact h
   have hor : ∀ {u:Value} {o:AO},OR s.N (Dm L loc) loc w u o→OR s.N (Dm L loc') loc' w u (o.ren t t'):=fun {u o} h4=>by
    cases o with
    | boxP pin ty cs =>
     obtain ⟨b,arr,rfl,q1,q2,q3,q4⟩:=h4
     refine ⟨b,arr,rfl,q1,by simpa [AO.ren] using q2,fun j x hx=>?_,q4⟩
     simp only [List.getElem?_map,Option.map_eq_some_iff] at hx
     obtain ⟨c,hc,rfl⟩:=hx
     exact har (q3 j c hc)
    | row e' n' rows' =>
     obtain ⟨fl,q1,q2,q3,q4⟩:=h4
     exact ⟨fl,q1,q2,fun i r j x h1 h2=>let ⟨v,h5,h6⟩:=q3 i r j x h1 h2;⟨v,h5,h6.mono (Kp.refl _ _) fun k _ h=>hD L k h⟩,q4⟩
    | map pin P k n f=>exact h4
    | arow e cs =>
     obtain ⟨fl,q1,q3,q4⟩:=h4
     refine ⟨fl,by rw [List.length_map];exact q1,fun j x hx=>?_,q4⟩
     simp only [List.getElem?_map,Option.map_eq_some_iff] at hx
     obtain ⟨c,hc,rfl⟩:=hx
     obtain ⟨v,h5,h6⟩:=q3 j c hc
     exact ⟨v,h5,har h6⟩
    | afix e m9 len cs =>
     obtain ⟨fl,q1,q3,q4⟩:=h4
     refine ⟨fl,q1,fun j x hx=>?_,q4⟩
     simp only [List.getElem?_map,Option.map_eq_some_iff] at hx
     obtain ⟨c,hc,rfl⟩:=hx
     obtain ⟨v,h5,h6⟩:=q3 j c hc
     exact ⟨v,h5,har h6⟩
    | raw u ob=>exact h4
    | amap P k n f q =>
     obtain ⟨b,DD,g,rfl,q1,q2,q3,q5⟩:=h4
     refine ⟨b,DD,g,rfl,q1,q2,fun kl=>⟨fun x hx=>?_,fun hx=>(q3 kl).2 (by simpa using hx)⟩,q5⟩
     obtain ⟨x',hx',rfl⟩:=Option.map_eq_some_iff.1 hx
     obtain ⟨v,k1,k2⟩:=(q3 kl).1 x' hx'
     exact ⟨v,k1,har k2⟩
    | lrec l sp fr =>
     obtain ⟨rfl,tmps,q1,q2,q3⟩:=h4
     refine ⟨rfl,tmps,q1,q2,fun i=>?_⟩
     rw [qz]
     have h5:=q3 i
     cases hf:fr.lookup i with
     | none=>exact .zy _
     | some x=>rw [hf] at h5;exact har h5
   refine ⟨loc',⟨hr.defers,hr.size,fun k _=>?_,⟨fun k ob ho=>?_,fun k ho=>?_,fun k k' z z' b h1 h2 h3 h4=>?_,hr.hp.inL,fun k z b h1 h2=>?_⟩⟩,⟨Kp.refl _ _,fun b h => .inl (hD _ b h)⟩⟩
   ·show AR _ _ _ _ (((List.lookup k (s.fr.map _))).getD .zy) _
    rw [qz]
    have h1:=hr.fr k trivial
    unfold ASt.get at h1
    cases hk:s.fr.lookup k with
    | none=>exact .zy _
    | some x=>rw [hk] at h1;exact har h1
   ·by_cases ek:k=t'
    ·subst ek
     rw [zB] at ho
     cases ho
     obtain ⟨_,u,h1,h2⟩:=hr.hp.at' t o hlk
     exact ⟨ht',u,l0.trans h1,hor h2⟩
    ·rw [zo ek,qz,z2D] at ho
     split at ho
     ·cases ho
     ·rename_i e2
      obtain ⟨o',h1,rfl⟩:=Option.map_eq_some_iff.1 ho
      obtain ⟨h2,u,h3,h4⟩:=hr.hp.at' k o' h1
      refine ⟨h2,u,?_,hor h4⟩
      simp only [loc']
      rw [if_neg ek,if_neg (fun e=>e2 (.inl e))]
      exact h3
   ·by_cases ek:k=t'
    ·subst ek;rw [zB] at ho;cases ho
    ·rw [zo ek,qz,z2D] at ho
     simp only [loc']
     rw [if_neg ek]
     split
     ·rfl
     ·rename_i e2
      rw [if_neg (fun e=>e.elim e2 ek)] at ho
      exact hr.hp.dead k (by simpa using ho)
   ·have f : ∀ {k z},loc' k=some z → ∃ k2,loc k2=some z∧((k=t' ∧ k2=t)∨(k2=k∧k ≠ t∧k ≠ t')):=fun {k z} h=>by
     rcases l1 k z h with ⟨e,h⟩|⟨e1,e2,h⟩
     ·exact ⟨t,h,.inl ⟨e,rfl⟩⟩
     ·exact ⟨k,h,.inr ⟨rfl,e1,e2⟩⟩
    obtain ⟨x,f1,f2⟩:=f h1
    obtain ⟨y,f3,f4⟩:=f h2
    have:=hr.hp.apart x y z z' b f1 f3 h3 h4
    rcases f2 with ⟨g1,g2⟩|⟨g1,g2,g3⟩ <;> rcases f4 with ⟨g4,g5⟩|⟨g4,g5,g6⟩
    ·rw [g1,g4]
    ·exact absurd (g4.symm.trans (this.symm.trans g2)) g5
    ·exact absurd (g1.symm.trans (this.trans g5)) g2
    ·rw [← g1,← g4,this]
   ·rcases l1 k z h1 with ⟨_,h3⟩|⟨_,_,h3⟩
    ·exact hr.hp.notL t z b h3 h2
    ·exact hr.hp.notL k z b h3 h2
  ·exact zi.refl s
 ·exact zi.refl s
def AO.pin (b:Nat):AO→AO
 | .boxP _ ty cs => .boxP (some b) ty cs
 | .map _ P k n f => .map (some b) P k n f
 | o=>o
theorem T.pin {F:Fence} {P:Program} {c:Code} {Q:Exit→ASt→Prop} {s:ASt} (t:Nat) (o:AO) (hlk:s.hp.lookup t=some o) (h : ∀ b,T F P c Q { s with hp:=zO s.hp t (o.pin b) }):T F P c Q s:=fun L loc a w hr=>by
 obtain ⟨htN,u,hu,hor⟩:=hr.hp.at' t o hlk
 have key : ∃ b,OR s.N (Dm L loc) loc w u (o.pin b):=by
  cases o with
  | boxP pin ty cs =>
   obtain ⟨b,arr,rfl,h1,h2,h3,h4,h5⟩:=hor
   exact ⟨b,b,arr,rfl,h1,h2,h3,h4,fun p e=>by cases e;rfl⟩
  | map pin P k n f =>
   obtain ⟨b,D,rfl,h1,h2,h3⟩:=hor
   exact ⟨b,b,D,rfl,h1,h2,fun p e=>by cases e;rfl⟩
  | row e n rows=>exact ⟨0,hor⟩
  | raw u ob=>exact ⟨0,hor⟩
  | amap P k n f q=>exact ⟨0,hor⟩
  | arow e cs=>exact ⟨0,hor⟩
  | afix e m9 len cs=>exact ⟨0,hor⟩
  | lrec l sp fr=>exact ⟨0,hor⟩
 obtain ⟨b,hb⟩:=key
 have hset:HRel L s.N (zO s.hp t (o.pin b)) loc w:=⟨fun k ob ho=>by
  rw [qL] at ho
  by_cases e:k=t
  ·subst e
   rw [if_pos rfl,hlk] at ho
   cases ho
   exact ⟨htN,u,hu,hb⟩
  ·rw [if_neg e] at ho;exact hr.hp.at' k ob ho,fun k ho=>by
  rw [qL] at ho
  by_cases e:k=t
  ·subst e;rw [if_pos rfl,hlk] at ho;cases ho
  ·rw [if_neg e] at ho;exact hr.hp.dead k ho,hr.hp.apart,hr.hp.inL,hr.hp.notL⟩
 exact h b L loc a w ⟨hr.defers,hr.size,hr.fr,hset⟩
theorem zi.newrowB (s:ASt) (t j e n:Nat) (pin:Option Nat) (ty:TypeId) (cs:List AV) (hlk:s.hp.lookup t=some (.boxP pin ty cs)) (hj:cs[j]? = some (.p (.val (.slice none 0 0)))):zi s { s with hp:=(s.N,.row e n []) :: zO s.hp t (.boxP pin ty (cs.set j (.own s.N))),N:=s.N+1 }:=fun L loc a w hr=>by
 have hb:=Blw.refl w.heap.size w
 have htN:=(hr.hp.at' t _ hlk).1
 have h1:=hr.add hb (.slice none 0 0) (.row e n []) (fun b e=>by cases e) ⟨[],World.ownsRow_nil _ _ _ _,fun r hr=>(by cases hr),fun k r j x h=>(by simp at h),fun v hv=>(by cases hv)⟩
 refine ⟨qj loc s.N (.slice none 0 0),?_,.add hb _ _ (fun b e=>by cases e)⟩
 have hlk2:(s.add (.row e n [])).hp.lookup t=some (.boxP pin ty cs):=by
  show List.lookup t ((s.N,_) :: s.hp)=_
  rw [zo (by omega)];exact hlk
 obtain ⟨_,u,hu,b,arr,rfl,q1,q2,q3,q4,q5⟩:=h1.hp.at' t _ hlk2
 have h2:=h1.turn (o' := .boxP pin ty (cs.set j (.own s.N))) hlk2 hu rfl (Kp.refl _ _) ⟨b,arr,rfl,q1,by simpa using q2,fun i x hx=>?_,q4,q5⟩
 ·have e2:zO (s.add (.row e n [])).hp t (.boxP pin ty (cs.set j (.own s.N)))=(s.N,.row e n []) :: zO s.hp t (.boxP pin ty (cs.set j (.own s.N))):=by
   show zO ((s.N,_) :: s.hp) t _=_
   simp only [zO,List.map_cons]
   rw [if_neg (by omega)]
  rw [← e2]
  exact h2
 ·rw [List.getElem?_set] at hx
  split at hx
  ·rename_i e1
   subst e1
   split at hx
   ·cases hx
    have h5:=(q3 j _ hj).val
    rw [h5]
    exact .own s.N _ (Nat.lt_succ_self _) rfl fun z hz=>by rw [zQ] at hz;cases hz;rfl
   ·cases hx
  ·exact q3 i x hx
def YldC (P:Program) (l:Nat) (n:Nat) (hp:Hp) (xs:List AV) (Q:Hp→AV→Prop):Prop := ∀ L loc w vs,HRel L n hp loc w→ARs n (Dm L loc) loc w xs vs →
 ∃ f tmps assign body,(Instr.yield l vs.toArray).run P w = .ok (.round l f tmps assign body) w∧RoundIn Fence.wide 0 P l f tmps assign body w fun e w' => ∃ v loc' hp' r,e = .returned v∧Q hp' r∧HRel L n hp' loc' w' ∧ AR n (Dm L loc') loc' w' r v∧Ext loc w loc' w'
def z6d (P:Program) (s:ASt) (y:Nat) (xs:List AV) (d:Option Nat) (K:ASt→Prop):Prop := ∃ n hp Q ks l sp fr,YldC P l n hp xs Q∧s.hp.lookup y=some (.lrec l sp fr)∧Passes s n hp∧(xs.all (·.okB n))=true ∧ ∀ hp' r,Q hp' r→(∀ t ∈ ks,t<n→Kept hp hp' t)∧K ((s.qh n ks hp').put d r)
def OpEffI (F:Fence) (P:Program) (o:Oper) (s:ASt) (K:ASt→Prop):Prop := ∀ L loc a w,Rel All L s loc a w→o.wpIn F 0 P a w (fun a' w' => ∃ s' loc',K s' ∧ Rel All L s' loc' a' w' ∧ Ext loc w loc' w') (fun _ _ _=>False)
theorem FOk.round {F:Fence} [k:FOk F] {n:Nat} {P:Program} {l:Nat} {f:FuncId} {tmps:Array Value} {assign body:Code} {w:World} {R:Ending→World→Prop} (h:RoundIn Fence.wide n P l f tmps assign body w R):RoundIn F n P l f tmps assign body w R:=by
 rcases k.h with rfl|⟨l,rfl⟩
 ·exact h
 ·exact h
theorem op_yield {F:Fence} [FOk F] {P:Program} {o:Oper} {s:ASt} (t:Tmp) (y:Nat) (args:Array Operand) (tys:Array TypeId) {K:ASt→Prop} (h:o.op = .call { callee := .value (.tmp t),args:=args,argTypes:=tys }) (hy:s.get t = .own y) (hc:z6d P s y (args.toList.map s.ev) o.dst K) (hd : ∀ t,o.dst=some t→t<s.n):OpEffI F P o s K:=fun L loc a w hr=>by
 obtain ⟨n,hp,Q,ks,l,sp,fr,hyc,hlk,hps,hok,hq⟩:=hc
 obtain ⟨_,u,hu,hax,hor⟩:=z0q hr (x := .tmp t) (fun _ _=>trivial) hy hlk
 obtain ⟨rfl,_⟩:=hor
 obtain ⟨LC,locC,h1,h2,h3⟩:=z5F hr hps ks
 obtain ⟨f,tmps,assign,body,hrun,hround⟩:=hyc LC locC w (args.toList.map a.eval) h1 ⟨by simp,fun j x v hx hv=>by
  simp only [List.getElem?_map,Option.map_eq_some_iff] at hx hv
  obtain ⟨z,hz,rfl⟩:=hx
  obtain ⟨z',hz',rfl⟩:=hv
  rw [hz] at hz'
  cases hz'
  exact h2 _ _ (List.all_eq_true.1 hok _ (List.mem_map_of_mem (List.mem_of_getElem? hz))) (hr.ev z (fun _ _=>trivial))⟩
 refine ⟨fun _ _=>FOk.fn _,?_⟩
 rw [Oper.semAt_eq F.round a.eval o (fun c e=>by rw [h] at e;cases e)]
 have e:(args.toList.map a.eval).toArray=args.map a.eval:=by apply Array.ext';simp
 rw [e] at hrun
 have hx:(execOp a.eval o).run P w = .ok (.round l f tmps assign body) w:=by
  simp [execOp,h,resolve,hax,Deferred.ofValue,invoke,hrun]
 rw [hx]
 refine ⟨(by rw [FOk.depth (F:=F)];intro h;cases h),FOk.round (hround.mono fun e w' ⟨v,loc',hp',r,he,hQ,g1,g2,g3⟩=>?_)⟩
 subst he
 obtain ⟨q1,q2⟩:=hq hp' r hQ
 obtain ⟨loc2,g4,g5,g6⟩:=h3 w' loc' hp' g1 g3 q1
 exact ⟨_,loc2,q2,Rel.put' g4 (s:=s.qh n ks hp') hd (g6 r v g2),g5⟩
theorem z2O {F:Fence} {n:Nat} {P:Program} {o:Oper} {a:Act} {w:World} {K K' : Act→World→Prop} {Q Q' : Exit→Act→World→Prop} (hK : ∀ a w,K a w→K' a w) (h : ∀ e a w,e ≠ .normal→Q e a w→Q' e a w) (hh:o.wpIn F n P a w K Q):o.wpIn F n P a w K' Q':=by
 refine ⟨hh.1,?_⟩
 have h2:=hh.2
 generalize (o.semAt F.round a.eval).run P w=r at *
 have lo:LetsOut Q→LetsOut Q':=fun ⟨a,w,k⟩=>⟨a,w,h _ _ _ (by simp) k⟩
 cases r with
 | ok x w' =>
  cases x <;> simp only [Oper.uponIn] at h2 ⊢ <;>
   first
    | exact hK _ _ h2
    | exact ⟨h2.1,h2.2.mono fun e w'' he=>by cases e <;> first|exact hK _ _ he|exact h _ _ _ (by simp) he|exact lo he⟩
    | exact ⟨h2.1,h2.2.mono fun _ _ he=>hK _ _ he⟩
    | exact h2
 | halt x w'=>cases x <;> simp only [Oper.uponIn] at h2 ⊢ <;> first|exact h _ _ _ (by simp) h2|exact h2
def TLI (F:Fence) (P:Program) (ops:Array Oper) (Q:Exit→ASt→Prop) (l:List Oper) (s:ASt):Prop := ∀ L loc a w,Rel All L s loc a w→wpListIn F 0 P ops (z0r L loc w Q) l a w
def WY (P:Program) (o:Oper) (s:ASt) (K:ASt→Prop):Prop:=match o.op with
 | .call { callee := .value (.tmp t),args:=args,.. }=>match s.get t with
  | .own y=>z6d P s y (args.toList.map s.ev) o.dst K
  | _=>False
 | _=>False
def WSY (P:Program) (ds:List (Option Nat)) (o:Oper) (s:ASt) (K:ASt→Prop):Prop:=zC o s∧match o.guard with
 | none=>WY P o s K
 | some (g,want)=>match ds[g]? with
  | some (some t)=>s.get t = .p (.val (.bool want))∧WY P o s K
  | _=>False
def WLI (P:Program) (ds:List (Option Nat)) (Q:ASt→Prop):List Oper→ASt→Prop
 | [],s=>Q s
 | o :: rest,s => ∃ s',zi s s' ∧ (WS P ds o s' (WLI P ds Q rest)∨WSY P ds o s' (WLI P ds Q rest))
theorem WLI.sound {F:Fence} [FOk F] {P:Program} {ops:Array Oper} {Q:Exit→ASt→Prop} : ∀ {l:List Oper} {s:ASt},(∀ o ∈ l,z3N o=true)→WLI P (ops.toList.map (·.dst)) (Q .normal) l s→TLI F P ops (NQ Q) l s
 | [],s,_,h=>fun L loc a w hr => .of (show NQ Q .normal s from ⟨rfl,h⟩) hr (Ext.refl _ _)
 | o :: rest,s,hd,h=>by
  have ih : ∀ {s:ASt},WLI P (ops.toList.map (·.dst)) (Q .normal) rest s→TLI F P ops (NQ Q) rest s:=fun k=>WLI.sound (fun x hx=>hd x (List.mem_cons.2 (.inr hx))) k
  obtain ⟨s0,hw0,h⟩:=h
  suffices main:TLI F P ops (NQ Q) (o :: rest) s0 from fun L loc a w hr=>let ⟨loc',h1,h2⟩:=hw0 L loc a w hr;listIn_mono (fun _ _ _ k=>k.ext h2) _ a w (main L loc' a w h1)
  intro L loc a w hr
  rcases h with h|h
  ·have h1:TL P ops (NQ fun _ s=>WLI P (ops.toList.map (·.dst)) (Q .normal) rest s) [o] s0:=WL.sound (by rw [show NQ (fun _ s=>WLI P (ops.toList.map (·.dst)) (Q .normal) rest s) .normal=fun s=>WLI P (ops.toList.map (·.dst)) (Q .normal) rest s from funext fun s=>by simp [NQ]];exact h)
   have h2:=z5D (F:=F) NQ.out [o] a w (fun x hx=>hd x (List.mem_cons.2 (.inl (List.mem_singleton.1 hx)))) (h1 L loc a w hr)
   have go : ∀ a' w',z0r L loc w (NQ fun _ s=>WLI P (ops.toList.map (·.dst)) (Q .normal) rest s) .normal a' w' → wpListIn F 0 P ops (z0r L loc w (NQ Q)) rest a' w':=fun a' w' ⟨s',loc',hq,⟨L1,h3,h4⟩,h5⟩ =>
    listIn_mono (fun _ _ _ k=>k.go h3 h4 h5) rest a' w' (ih hq.2 L1 loc' a' w' h3)
   unfold wpListIn at h2 ⊢
   split
   ·rename_i hw
    rw [if_pos hw] at h2
    exact z2O go (fun e a w he ⟨s',loc',hq,_⟩=>absurd hq.1 he) h2
   ·rename_i hw
    rw [if_neg hw] at h2
    exact ⟨h2.1,go _ _ h2.2⟩
  ·obtain ⟨hdo,h⟩:=h
   have main : ∀ {K:ASt→Prop},WY P o s0 K→OpEffI F P o s0 K:=fun {K} hy=>by
    obtain ⟨dst,op,ty,pos,aft,gd⟩:=o
    unfold WY at hy
    simp only at hy
    split at hy
    ·rename_i t args tys
     split at hy
     ·rename_i y hg
      exact op_yield t y args tys rfl hg hy hdo.h
     ·exact hy.elim
    ·exact hy.elim
   have fin:OpEffI F P o s0 (WLI P (ops.toList.map (·.dst)) (Q .normal) rest)→Region.wanted o (yielded ops a.tmps)=true→wpListIn F 0 P ops (z0r L loc w (NQ Q)) (o :: rest) a w:=fun hy hw=>by
    unfold wpListIn
    rw [if_pos hw]
    refine z2O (fun a' w' ⟨s',loc',h1,h2,h3⟩=>?_) (fun _ _ _ _ h=>h.elim) (hy L loc a w hr)
    exact listIn_mono (fun _ _ _ k=>k.go h2 (.refl _ _ _) h3) rest a' w' (ih h1 L loc' a' w' h2)
   split at h
   ·rename_i hg
    exact fin (main h) (by simp [Region.wanted,hg])
   ·rename_i g want hg
    split at h
    ·rename_i t ht
     have ht' : (ops[g]?).bind (·.dst)=some t:=by
      simp only [List.getElem?_map,Option.map_eq_some_iff,Array.getElem?_toList] at ht
      obtain ⟨o',h1,h2⟩:=ht
      rw [h1];exact h2
     refine fin (main h.2) ?_
     have h5:=z0Q hr (t:=t) trivial h.1
     simp [Region.wanted,hg,yielded,ht',h5]
    ·exact h.elim
where
 listIn_mono {F:Fence} {P:Program} {ops:Array Oper} {Q Q' : Exit→Act→World→Prop} (h : ∀ e a w,Q e a w→Q' e a w) : ∀ (l:List Oper) (a:Act) (w:World),wpListIn F 0 P ops Q l a w→wpListIn F 0 P ops Q' l a w
  | [],a,w,k=>h _ _ _ k
  | o :: l,a,w,k=>by
   unfold wpListIn at k ⊢
   split
   ·rename_i hw
    rw [if_pos hw] at k
    exact z2O (listIn_mono h l) (fun e a w _ k=>h e a w k) k
   ·rename_i hw
    rw [if_neg hw] at k
    exact ⟨k.1,listIn_mono h l _ _ k.2⟩
theorem T.regI {F:Fence} [FOk F] {P:Program} {Q:Exit→ASt→Prop} {s:ASt} {id:Nat} {l:List Oper} (hd:z1r l=true) (h : ∀ K:ASt→Prop,(∀ s,Q .normal s→K s)→WLI P (l.map (·.dst)) K l s):T F P (.region id l.toArray false) Q s:=fun L loc a w hr =>
 wpIn_mono (wpIn_region_lit (WLI.sound (ops:=l.toArray) (z0i hd) (by simpa using h _ fun _ h=>h) L loc a w hr)) fun _ _ _ k=>NQ.post k
theorem WLI.stepP {P:Program} {ds:List (Option Nat)} {Q:ASt→Prop} {o:Oper} {rest:List Oper} {s:ASt} (h : ∀ K:ASt→Prop,(∀ s,WLI P ds Q rest s→K s)→WS P ds o s K):WLI P ds Q (o :: rest) s:=⟨s,zi.refl s,.inl (h _ fun _ h=>h)⟩
theorem WLI.stepY {P:Program} {ds:List (Option Nat)} {Q:ASt→Prop} {o:Oper} {rest:List Oper} {s:ASt} (h : ∀ K:ASt→Prop,(∀ s,WLI P ds Q rest s→K s)→WSY P ds o s K):WLI P ds Q (o :: rest) s:=⟨s,zi.refl s,.inr (h _ fun _ h=>h)⟩
theorem WLI.weak {P:Program} {ds:List (Option Nat)} {Q:ASt→Prop} {o:Oper} {rest:List Oper} {s s' : ASt} (hw:zi s s') (h:WLI P ds Q (o :: rest) s'):WLI P ds Q (o :: rest) s:=let ⟨s2,h1,h2⟩:=h;⟨s2,hw.trans h1,h2⟩
theorem WLI.fin {P:Program} {ds:List (Option Nat)} {Q:ASt→Prop} {s:ASt} (h:Q s):WLI P ds Q [] s:=h
def z6m:List Nat→List AV→List (Nat × AV)→List (Nat × AV)
 | p :: ps,x :: xs,fr=>z6m ps xs ((p,x) :: fr)
 | _,_,fr=>fr
def z5P:List Nat→List Value→Array Value→Array Value
 | p :: ps,v :: vs,t=>z5P ps vs (t.setIfInBounds p v)
 | _,_,t=>t
theorem z5i : ∀ (ps:List Nat) (vs:List Value) (t:Array Value),(z5P ps vs t).size=t.size
 | [],_,_=>rfl
 | _ :: _,[],_=>rfl
 | p :: ps,v :: vs,t=>by rw [z5P,z5i ps vs];simp
theorem z4r : ∀ (ps:List Nat) (vs:List Value) (t:Array Value),(ps.zip vs).foldl (fun t (p:Nat × Value)=>t.setIfInBounds p.1 p.2) t=z5P ps vs t
 | [],_,_=>rfl
 | _ :: _,[],_=>rfl
 | p :: ps,v :: vs,t=>by rw [List.zip_cons_cons,List.foldl_cons,z4r ps vs,z5P]
theorem z7N {N:Nat} {D:Nat→Prop} {loc:Nat→Option Value} {w:World} : ∀ (ps:List Nat) (xs:List AV) (vs:List Value) (fr:List (Nat × AV)) (t:Array Value),(∀ p ∈ ps,p<t.size)→vs.length=xs.length→(∀ (j:Nat) x v,xs[j]? = some x→vs[j]? = some v→AR N D loc w x v) →
  (∀ k,AR N D loc w ((fr.lookup k).getD .zy) (t.getD k undef)) → ∀ k,AR N D loc w (((z6m ps xs fr).lookup k).getD .zy) ((z5P ps vs t).getD k undef)
 | [],xs,vs,fr,t,_,_,_,h=>by cases vs <;> exact h
 | p :: ps,[],vs,fr,t,_,hl,_,h=>by
  have:vs = []:=List.eq_nil_of_length_eq_zero (by simpa using hl)
  subst this;exact h
 | p :: ps,x :: xs,vs,fr,t,hp,hl,ha,h=>by
  cases vs with
  | nil=>cases hl
  | cons v vs =>
   refine z7N ps xs vs _ _ (fun q hq=>by simpa using hp q (List.mem_cons.2 (.inr hq))) (by simpa using hl) (fun j y u hy hu=>ha (j+1) y u (by simpa using hy) (by simpa using hu)) fun k=>?_
   have hps:=hp p (List.mem_cons.2 (.inl rfl))
   by_cases e:k=p
   ·subst e
    rw [zB]
    have:=ha 0 x v rfl rfl
    simpa [hps] using this
   ·rw [zo e]
    have:=h k
    rw [Array.getD_eq_getD_getElem?,Array.getElem?_setIfInBounds_ne (Ne.symm e),← Array.getD_eq_getD_getElem?]
    exact this
def FinR (n y:Nat) (Q:Hp→Prop) (e:Exit) (s:ASt):Prop:=e = .normal ∧ ∃ s',zi s s' ∧ s'.N=n∧s'.hp.lookup y=none∧Q s'.hp
theorem YldC.of {P:Program} {l:Nat} {n:Nat} {hp:Hp} {xs:List AV} {Q:Hp→AV→Prop} {sp:LSpec} {fr:List (Nat × AV)} (y:Nat) (ks:List Nat) (Qb:Hp→Prop) (hy:hp.lookup y=some (.lrec l sp fr)) (hps:sp.ps.size=xs.length) (hpb : ∀ p ∈ sp.ps.toList,p<sp.n)
  (hfr : ∀ p ∈ fr,p.2.keep n ks=p.2)
  (hT:T (Fence.wide.inRound l) P sp.assign (ze (fun s1=>T (Fence.wide.inRound l) P sp.body (FinR n y Qb) s1) (fun _ _=>False)) ⟨z6m sp.ps.toList xs fr,hp.filter fun p=>p.1 != y,sp.n,n⟩)
  (hQ : ∀ hp3,Qb hp3→(∀ t ∈ ks,Kept hp hp3 t)∧(∀ p ∈ hp3,p.2.sub y .zy=p.2)∧Q ((y,.lrec l sp fr) :: hp3) (.p (.val (.bool true)))) (hxs:(xs.all (·.okB n))=true):YldC P l n hp xs Q:=fun L loc w vs hh hvs=>by
 obtain ⟨hyn,u,hu,rfl,tmps,hl,htn,htf⟩:=hh.at' y _ hy
 have hll:=(Array.getElem?_eq_some_iff.1 hl).1
 have hsz:vs.toArray.size=sp.ps.size:=by simp [hvs.1,hps]
 have hrun:=run_yield (P:=P) (args:=vs.toArray) hl hsz
 refine ⟨_,_,_,_,hrun,roundIn_of_wpIn trivial ?_⟩
 have hfold:(sp.ps.zip vs.toArray).foldl (fun tmps (t,a)=>tmps.setIfInBounds t a) tmps=z5P sp.ps.toList vs tmps:=by
  rw [← z4r,← Array.foldl_toList,Array.toList_zip]
 simp only [hfold]
 -- the memory of the round
 let loc1:Nat→Option Value:=fun t=>if t=y then none else loc t
 let L1:Nat→Prop:=fun b=>L b∨b=l
 have l1 : ∀ t u,loc1 t=some u→t ≠ y∧loc t=some u:=fun t u h=>by
  simp only [loc1] at h
  split at h
  ·cases h
  ·exact ⟨by assumption,h⟩
 have d1 : ∀ k,Dm L1 loc1 k→Dm L loc k:=fun k h=>by
  rcases h with (h|h)|⟨t,u,h1,h2⟩
  ·exact .inl h
  ·subst h;exact .inr ⟨y,_,hu,rfl⟩
  ·exact .inr ⟨t,u,(l1 t u h1).2,h2⟩
 have hh1:HRel L1 n (hp.filter fun p=>p.1 != y) loc1 w:=⟨fun t o ho=>by
  rw [z0a] at ho
  split at ho
  ·cases ho
  ·rename_i e
   obtain ⟨g1,u,g2,g3⟩:=hh.at' t o ho
   exact ⟨g1,u,by simp [loc1,e,g2],g3.mono (Nat.le_refl _) (Kp.refl _ _) (fun k _ h=>d1 k h) (fun t u _ h=>(l1 t u h).2) (fun _ _=>rfl)⟩,fun t ho=>by
  rw [z0a] at ho
  simp only [loc1]
  split
  ·rfl
  ·rename_i e;rw [if_neg e] at ho;exact hh.dead t ho,fun t t' u u' b h1 h2=>hh.apart t t' u u' b (l1 t u h1).2 (l1 t' u' h2).2,fun b hb=>hh.z7d (d1 b (.inl hb)),fun t u b h1 h2 h3=>by
  rcases h3 with h3|h3
  ·exact hh.notL t u b (l1 t u h1).2 h2 h3
  ·subst h3;exact (l1 t u h1).1 (hh.apart t y u _ b (l1 t u h1).2 hu h2 rfl)⟩
 have hrel:Rel All ⟨L1,[]⟩ ⟨z6m sp.ps.toList xs fr,hp.filter fun p=>p.1 != y,sp.n,n⟩ loc1 { tmps:=z5P sp.ps.toList vs tmps,defers := [] } w:=by
  refine ⟨rfl,by show (z5P _ _ _).size=sp.n;rw [z5i,htn],fun t _=>?_,hh1⟩
  have:=z7N (N:=n) (D:=Dm L1 loc1) (loc:=loc1) (w:=w) sp.ps.toList xs vs fr tmps (fun p hp'=>by rw [htn];exact hpb p hp') hvs.1 (fun j x v hx hv=>(hvs.2 j x v hx hv).mono (Nat.le_refl _) (Kp.refl _ _) (fun k _ h=>d1 k h) (fun t u _ h=>(l1 t u h).2)) (fun k=>(htf k).mono (Nat.le_refl _) (Kp.refl _ _) (fun k _ h=>d1 k h) (fun t u _ h=>(l1 t u h).2)) t
  exact this
 refine wpIn_mono (hT ⟨L1,[]⟩ loc1 _ w hrel) fun e a1 w1 ⟨s1,loc2,hq,⟨L2,hr2,hlx2⟩,hx2⟩=>?_
 cases e with
 | normal =>
  have hlL2:L2 l:=hlx2.sub l (.inr rfl)
  have nown : ∀ {M:Lim} {s:ASt} {lc:Nat→Option Value} {a:Act} {W:World},Rel All M s lc a W→M l → ¬ Dm (fun _=>False) lc l:=fun hr hM h=>by
   rcases h with h|⟨t,u,h1,h2⟩
   ·exact h
   ·exact hr.hp.notL t u l h1 h2 hM
  have hl2:=(hx2.kp.block l hll (nown hrel (.inr rfl))).trans hl
  have hl2l:=(Array.getElem?_eq_some_iff.1 hl2).1
  refine ⟨_,run_beginRound hl2 rfl,?_⟩
  obtain ⟨ob,hob⟩ : ∃ ob,ob=Obj.loop { state := .busy,pending:=none,fn:=sp.fn,tmps:=tmps,params:=sp.ps,assign:=sp.assign,body:=sp.body,defers:=sp.D }:=⟨_,rfl⟩
  rw [← hob]
  have hr3:Rel All L2 s1 loc2 a1 (w1.putObj l ob):=hr2.shut1 hlL2 (z0B _ _)
  refine wpIn_mono (hq L2 loc2 a1 _ hr3) fun e a4 w4 ⟨s4,loc4,⟨he,s5,hwk,hN,hy5,hqb⟩,⟨L4,hr4,hlx4⟩,hx4⟩=>?_
  subst he
  obtain ⟨loc5,hr5,hx5⟩:=hwk L4 loc4 a4 w4 hr4
  have hl3:(w1.putObj l ob).heap[l]? = some ob:=World.putObj_heap_same hl2l
  have hl4:w4.heap[l]? = some ob:=(hx4.kp.block l (Array.getElem?_eq_some_iff.1 hl3).1 (nown hr3 hlL2)).trans hl3
  rw [hob] at hl4
  have hlL4:L4 l:=hlx4.sub l hlL2
  have hl4l:=(Array.getElem?_eq_some_iff.1 hl4).1
  obtain ⟨ob2,hob2⟩ : ∃ ob2,ob2=Obj.loop { state := .ready,pending:=none,fn:=sp.fn,tmps:=tmps,params:=sp.ps,assign:=sp.assign,body:=sp.body,defers:=sp.D }:=⟨_,rfl⟩
  have hr6:Rel All L4 s5 loc5 a4 (w4.putObj l ob2):=hr5.shut1 hlL4 (z0B _ _)
  obtain ⟨W,hW⟩ : ∃ W,W=w4.putObj l ob2:=⟨_,rfl⟩
  have hend:(Instr.endRound l none).run P w4 = .ok (.bool true) W:=by rw [hW,hob2];exact run_endRound none hl4
  refine ⟨_,_,hend,?_⟩
  have hWl:W.heap[l]? = some ob2:=by rw [hW];exact World.putObj_heap_same hl4l
  rw [← hW] at hr6
  have fr2 : ∀ b,Dm (fun _=>False) loc2 b→Dm (fun _=>False) loc1 b∨w.heap.size≤b:=hx2.fresh
  have fr5 : ∀ b,Dm (fun _=>False) loc5 b→Dm (fun _=>False) loc1 b∨w.heap.size≤b:=fun b h=>by
   rcases hx5.fresh b h with h|h
   ·rcases hx4.fresh b h with h|h
    ·exact fr2 b h
    ·have:=hx2.kp.size;simp at h;exact .inr (by omega)
   ·have:=hx2.kp.size;have:=hx4.kp.size;simp at this;exact .inr (by omega)
  have k1:Kp (fun k=>Dm (fun _=>False) loc1 k∨k=l) w (w1.putObj l ob):=(hx2.kp.wide fun k h => .inl h).trans ((z0B w1 ob).wide (D':=fun k=>k=l) fun k h=>h) fun x hx => .inl (.inr hx)
  have k2:Kp (fun k=>Dm (fun _=>False) loc1 k∨k=l) w w4:=k1.trans hx4.kp fun x hx=>(fr2 x hx).imp (fun h => .inl h) id
  have kW:Kp (fun k=>Dm (fun _=>False) loc1 k∨k=l) w W:=by
   rw [hW]
   exact k2.trans ((z0B w4 ob2).wide (D':=fun k=>k=l) fun k h=>h) fun x hx => .inl (.inr hx)
  have kF:Kp (Dm (fun _=>False) loc) w W:=kW.wide fun k h=>by
   rcases h with (h|⟨t,u,h1,h2⟩)|h
   ·exact h.elim
   ·exact .inr ⟨t,u,(l1 t u h1).2,h2⟩
   ·exact .inr ⟨y,_,hu,by rw [h];rfl⟩
  have kL:Kp (Dm L loc) w W:=kF.wide fun k h=>h.imp (fun h=>h.elim) id
  have sub4 : ∀ b,L b→L4 b:=fun b h=>hlx4.sub b (hlx2.sub b (.inl h))
  let loc' : Nat→Option Value:=fun t=>if t=y then some (.func (.yield l) #[] #[]) else loc5 t
  have ly:loc' y=some (.func (.yield l) #[] #[]):=by simp [loc']
  have lo : ∀ t,t ≠ y→loc' t=loc5 t:=fun t h=>by simp [loc',h]
  have dm5 : ∀ k,k<W.heap.size→Dm L loc' k→Dm L4 loc5 k:=fun k _ h=>by
   rcases h with h|⟨t,u,h1,h2⟩
   ·exact .inl (sub4 k h)
   ·by_cases e:t=y
    ·subst e;rw [ly] at h1;cases h1;cases h2;exact .inl hlL4
    ·exact .inr ⟨t,u,(lo t e) ▸ h1,h2⟩
  have dmF : ∀ b,Dm (fun _=>False) loc' b→Dm (fun _=>False) loc b∨w.heap.size≤b:=fun b h=>by
   rcases h with h|⟨t,u,h1,h2⟩
   ·exact h.elim
   ·by_cases e:t=y
    ·subst e;rw [ly] at h1;cases h1;exact .inl (.inr ⟨_,_,hu,h2⟩)
    ·rcases fr5 b (.inr ⟨t,u,(lo t e) ▸ h1,h2⟩) with (h|⟨t,u,h3,h4⟩)|h
     ·exact h.elim
     ·exact .inl (.inr ⟨t,u,(l1 t u h3).2,h4⟩)
     ·exact .inr h
  have hDw : ∀ k,k<w.heap.size→Dm L loc' k→Dm L loc k:=fun k hk h=>by
   rcases h with h|h
   ·exact .inl h
   ·rcases dmF k (.inr h) with h|h
    ·exact h.imp (fun h=>h.elim) id
    ·omega
  obtain ⟨hks,hsub,hQQ⟩:=hQ s5.hp hqb
  have keepx : ∀ k,AR n (Dm L loc') loc' W ((fr.lookup k).getD .zy) (tmps.getD k undef):=fun k=>by
   have h1:=(htf k).keep (n:=n) (ks:=ks) (N':=n) (loc':=loc') (Nat.le_refl _) kL hDw fun t u ht hc h=>by
    rcases hc with hc|hc
    ·omega
    ·obtain ⟨o,o',v,g1,g2,g3,g4⟩:=(hks t hc).spec
     obtain ⟨_,u1,g5,g6⟩:=hh.at' t o g1
     by_cases e:t=y
     ·subst e;rw [hy5] at g2;cases g2
     ·obtain ⟨_,u2,g7,g8⟩:=hr6.hp.at' t o' g2
      rw [lo t e,g7] at h;cases h
      rw [g5,g6.handle g3,g8.handle g4]
   cases hf:fr.lookup k with
   | none=>exact .zy _
   | some x =>
    rw [hf] at h1
    have:=hfr _ (z0Z hf)
    simp only at this
    simp only [Option.getD_some] at h1 ⊢
    rw [this] at h1;exact h1
  refine ⟨.bool true,loc',(y,.lrec l sp fr) :: s5.hp,_,rfl,hQQ,⟨fun t o ho=>?_,fun t ho=>?_,fun t t' u u' b h1 h2 h3 h4=>?_,fun b hb=>hr6.hp.inL b (sub4 b hb),fun t u b h1 h2 h3=>?_⟩,.qC _ rfl,⟨kF,dmF⟩⟩
  ·by_cases e:t=y
   ·subst e
    rw [zB] at ho
    cases ho
    exact ⟨hyn,_,ly,rfl,tmps,by rw [hWl,hob2],htn,keepx⟩
   ·rw [zo e] at ho
    obtain ⟨g1,u,g2,g3⟩:=hr6.hp.at' t o ho
    rw [hN] at g1 g3
    refine ⟨g1,u,(lo t e).trans g2,?_⟩
    have:=g3.sub (t:=y) (y := .zy) (N':=n) (D':=Dm L loc') (loc':=loc') (w':=W) (Nat.le_refl _) (Kp.refl _ _) dm5 (fun k z _ hk hz=>(lo k hk) ▸ hz) (fun v _ _ => .zy v) (fun _ _=>rfl)
    rwa [hsub _ (z0Z ho)] at this
  ·by_cases e:t=y
   ·subst e;rw [zB] at ho;cases ho
   ·rw [zo e] at ho
    rw [lo t e];exact hr6.hp.dead t ho
  ·by_cases e:t=y
   ·by_cases e' : t' = y
    ·rw [e,e']
    ·subst e
     rw [ly] at h1;cases h1;cases h3
     rw [lo t' e'] at h2
     exact (hr6.hp.notL t' u' _ h2 h4 hlL4).elim
   ·by_cases e' : t' = y
    ·subst e'
     rw [ly] at h2;cases h2;cases h4
     rw [lo t e] at h1
     exact (hr6.hp.notL t u _ h1 h3 hlL4).elim
    ·rw [lo t e] at h1
     rw [lo t' e'] at h2
     exact hr6.hp.apart t t' u u' b h1 h2 h3 h4
  ·by_cases e:t=y
   ·subst e
    rw [ly] at h1;cases h1
    exact hh.notL _ _ b hu h2 h3
   ·rw [lo t e] at h1
    exact hr6.hp.notL t u b h1 h2 (sub4 b h3)
 | _=>exact hq.elim
theorem T.rangeF {P:Program} {Q:Exit→ASt→Prop} {s:ASt} {g:Operand} {ps:Array Tmp} {assign body:Code} (gf:FuncId) (caps:List AV) (fr:List (Nat × AV)) (hg:s.ev g = .fn (.func gf) caps) (he:Ent P gf) (hfr : ∀ p ∈ fr,s.get p.1=p.2)
  (hc : ∀ l fn D,∃ n hp I ks,MemC P gf n hp (.own s.N :: caps) I∧Passes (s.add (.lrec l ⟨s.n,fn,ps,assign,body,D⟩ fr)) n hp∧((AV.own s.N :: caps).all (·.okB n))=true ∧ ∀ hp' r,I hp' r→(∀ t ∈ ks,t<n→Kept hp hp' t)∧(∃ fr',hp'.lookup s.N=some (.lrec l ⟨s.n,fn,ps,assign,body,D⟩ fr')) ∧
   ∀ ob,Q .normal { (s.add (.lrec l ⟨s.n,fn,ps,assign,body,D⟩ fr)).qh n ks hp' with hp:=zO ((s.add (.lrec l ⟨s.n,fn,ps,assign,body,D⟩ fr)).qh n ks hp').hp s.N (.raw (.func (.yield l) #[] #[]) ob) }):T Fence.wide P (.rangeFunc g ps assign body) Q s:=fun L loc a w hr=>by
 have h0:=hr.ev g (fun _ _=>trivial)
 rw [hg] at h0
 generalize hu:a.eval g=u at h0
 cases h0 with
 | fn _ _ lb hlb hla =>
 refine wpIn_rangeFunc fun fn _=>?_
 obtain ⟨D,hD⟩ : ∃ D,D=w.heap.size:=⟨_,rfl⟩
 obtain ⟨W0,hW0⟩ : ∃ W0,W0=w.alloc (.deferred (some [])):=⟨_,rfl⟩
 have hs0:W0.heap.size=D+1:=by rw [hW0,hD];simp
 obtain ⟨l,hl⟩ : ∃ l,l=W0.heap.size:=⟨_,rfl⟩
 obtain ⟨rec,hrec⟩ : ∃ rec,rec=Obj.loop { state := .ready,pending:=none,fn,tmps:=a.tmps,params:=ps,assign,body,defers:=D }:=⟨_,rfl⟩
 obtain ⟨W1,hW1⟩ : ∃ W1,W1=W0.alloc rec:=⟨_,rfl⟩
 have b0:Blw w.heap.size w W0:=by rw [hW0];exact (Blw.refl _ _).alloc (Nat.le_refl _) _
 have b1:Blw W0.heap.size W0 W1:=by rw [hW1];exact (Blw.refl _ _).alloc (Nat.le_refl _) _
 have hD0:W0.heap[D]? = some (.deferred (some [])):=by rw [hW0,hD];exact World.alloc_heap_new _ _
 obtain ⟨n,hp,I,ks,hm,hps,hok,hI⟩:=hc l fn D
 -- the limits behind the statement's beginning
 let L1:Lim:=⟨fun b=>L b∨b=D,mark D :: L.ds⟩
 have dm1 : ∀ k,k<w.heap.size→Dm L1 loc k→Dm L loc k:=fun k hk h=>by
  rcases h with (h|h)|h
  ·exact .inl h
  ·omega
  ·exact .inr h
 have notD : ∀ t u,loc t=some u→ql u ≠ some D:=fun t u h e=>by
  obtain ⟨o,_,ho⟩:=hr.hp.z1k h
  have:=ho.z0n e
  omega
 have hr0:Rel All L1 s loc { a with defers:=mark D :: a.defers } W0:=⟨by show mark D :: a.defers=mark D :: L.ds;rw [hr.defers],hr.size,fun t _=>(hr.fr t trivial).mono (Nat.le_refl _) (.of_below b0) dm1 (fun _ _ _ h=>h),
  ⟨fun t o ho=>let ⟨g1,u,g2,g3⟩:=hr.hp.at' t o ho;⟨g1,u,g2,g3.mono (Nat.le_refl _) (.of_below b0) dm1 (fun _ _ _ h=>h) (fun b hb=>b0.block b (g3.z0n hb))⟩,hr.hp.dead,hr.hp.apart,fun b hb=>by
   rcases hb with hb|hb
   ·have:=hr.hp.inL b hb;omega
   ·omega,fun t u b h1 h2 h3=>by
   rcases h3 with h3|h3
   ·exact hr.hp.notL t u b h1 h2 h3
   ·exact notD t u h1 (h3 ▸ h2)⟩⟩
 have hup : ∀ b,ql (.func (.yield l) #[] #[])=some b→W0.heap.size≤b:=fun b e=>by cases e;rw [hl];exact Nat.le_refl _
 have hWl:W1.heap[l]? = some rec:=by rw [hW1,hl];exact World.alloc_heap_new _ _
 let sp:LSpec:=⟨s.n,fn,ps,assign,body,D⟩
 have hr1:Rel All L1 (s.add (.lrec l sp fr)) (qj loc s.N (.func (.yield l) #[] #[])) { a with defers:=mark D :: a.defers } W1:=by
  refine hr0.add b1 (.func (.yield l) #[] #[]) (.lrec l sp fr) hup ⟨rfl,a.tmps,by rw [hWl,hrec],hr.size,fun t=>?_⟩
  cases hf:fr.lookup t with
  | none=>exact .zy _
  | some x =>
   have h1:=hr0.fr t trivial
   rw [hfr _ (z0Z hf)] at h1
   exact h1.mono (Nat.le_succ _) (.of_below b1) (fun k hk hd=>(z19 hd).resolve_left fun e=>by have:=hup k e;omega) (fun k v hk hv=>by rwa [zM _ _ (by omega)] at hv)
 have x1:Ext loc w (qj loc s.N (.func (.yield l) #[] #[])) W1:=(Ext.of_below b0).trans (.add b1 _ _ hup)
 obtain ⟨LC,locC,h1,h2,h3⟩:=z5F hr1 hps ks
 have hcall:=hm LC locC W1 (.func (.yield l) #[] #[] :: lb.toList) h1 ⟨by simp [hlb],fun j x v hx hv=>by
  refine h2 x v (List.all_eq_true.1 hok x (List.mem_of_getElem? hx)) ?_
  cases j with
  | zero =>
   cases hx;cases hv
   exact .own _ _ (Nat.lt_succ_self _) rfl fun z hz=>by rw [zQ] at hz;cases hz;rfl
  | succ j =>
   have h5:=hla j x hx
   have h6:lb[j]? = some v:=by simpa using hv
   rw [Array.getD_eq_getD_getElem?,h6] at h5
   exact (h5.mono (D':=Dm L1 loc) (Nat.le_refl _) (.of_below b0) dm1 (fun _ _ _ h=>h)).mono (Nat.le_succ _) (.of_below b1) (fun k hk hd=>(z19 hd).resolve_left fun e=>by have:=hup k e;omega) (fun k v hk hv=>by rwa [zM _ _ (by omega)] at hv)⟩
 refine ⟨l,[mark D],W1,{ target := .fn (.func gf) lb,args := #[.func (.yield l) #[] #[]] },W1,gf,(.func (.yield l) #[] #[] :: lb.toList).toArray,W1,?_,?_,fun _ _=>trivial,?_,(by intro h;cases h),callsIn_wide.2 (hcall.mono ?_)⟩
 ·rw [hW1,hrec,hl,hs0,hD,hW0]
  exact run_enterLoop_outer _ _ _ _ _
 ·simp only [resolve,hu]
  simp [go_sem]
 ·have e:(Value.func (.yield l) #[] #[] :: lb.toList).toArray = #[.func (.yield l) #[] #[]]++lb:=by apply Array.ext';simp
  rw [e]
  have:=he (#[.func (.yield l) #[] #[]]++lb) W1
  simp [invoke,go_sem,this]
 ·rintro e W2 ⟨v,loc',hp',r,rfl,hQ,g1,g2,g3⟩
  obtain ⟨q1,⟨fr',q2⟩,q3⟩:=hI hp' r hQ
  obtain ⟨loc2,g4,g5,_⟩:=h3 W2 loc' hp' g1 g3 q1
  have hlk:((s.add (.lrec l sp fr)).qh n ks hp').hp.lookup s.N=some (.lrec l sp fr'):=by
   simp only [ASt.qh]
   rw [z2s,q2];rfl
  obtain ⟨_,u2,hu2,rfl,tmps2,hW2,_⟩:=g4.hp.at' s.N _ hlk
  have hW2l:=(Array.getElem?_eq_some_iff.1 hW2).1
  refine ⟨none,_,run_endLoop hW2 (by simp),?_⟩
  obtain ⟨ob,hob⟩ : ∃ ob,ob=Obj.loop { state := .exhausted,pending:=none,fn:=sp.fn,tmps:=tmps2,params:=sp.ps,assign:=sp.assign,body:=sp.body,defers:=sp.D }:=⟨_,rfl⟩
  rw [← hob]
  have hr4:=g4.turn (o' := .raw (.func (.yield l) #[] #[]) ob) hlk hu2 rfl (z0B W2 ob) ⟨l,rfl,rfl,World.putObj_heap_same hW2l⟩
  have x4:Ext loc2 W2 loc2 (W2.putObj l ob) := .turn hu2 rfl (z0B W2 ob)
  have x5:=(x1.trans g5).trans x4
  have hDl:D ≠ l:=by omega
  have hW1D:W1.heap[D]? = some (.deferred (some [])):=(b1.block D (by omega)).trans hD0
  have hW2D:W2.heap[D]? = some (.deferred (some [])):=(g5.kp.block D (Array.getElem?_eq_some_iff.1 hW1D).1 (fun h=>by
   rcases h with h|⟨t,u,h5,h6⟩
   ·exact h
   ·exact hr1.hp.notL t u D h5 h6 (.inr rfl))).trans hW1D
  exact ⟨_,loc2,q3 ob,⟨L1,hr4,⟨⟨[D],rfl,by simp,fun x hx=>by
   rw [List.mem_singleton] at hx
   subst hx
   exact ⟨by omega,.inr rfl,by rw [World.putObj_heap_other hDl];exact hW2D⟩⟩,fun b hb => .inl hb,fun b hb=>hb.imp id fun e=>by omega⟩⟩,x5⟩
def z1A (ops:Array Oper) (l:List Oper) (fl:Fl) (size i:Nat) (o:Oper) (f:Option (Nat × Nat)):Bool :=
 (match o.dst with|some d=>decide (d<size)|none=>f.isNone) &&
 (o.after.all (fun e => !Region.binds .any e||decide (e.on<i)) &&
 ((o.looksAt ops).all (fun t=>decide (t<size)&&(List.range l.length).all fun j=>((l[j]?).bind (·.dst)) != some t||z1p ops i j) &&
 ((List.range l.length).all (fun j=>i==j||o.dst.isNone||((l[j]?).bind (·.dst)) != o.dst) &&
 (match f with
  | some (lo,hi)=>(decide (lo=0)||(List.range l.length).any fun k=>wrB fl k&&(rkf fl k+1==lo&&z1p ops i k))&&(decide (rkf fl fl.length≤hi)||(List.range l.length).any fun k=>wrB fl k&&(rkf fl k==hi&&z1p ops k i))
  | none=>o.guard.isNone&&(decide (rkf fl i=0)||(List.range l.length).any fun k=>wrB fl k&&(rkf fl k+1==rkf fl i&&z7K ops i k))))))
def z5a (ops:Array Oper) (l:List Oper) (fl:Fl) (size:Nat):Bool :=
 decide (fl.length=l.length)&&((decide (rkf fl fl.length=0)||(List.range fl.length).any fun i=>wrB fl i&&rkf fl i+1==rkf fl fl.length) &&
 (List.range l.length).all fun i=>match l[i]?,fl[i]? with
  | some o,some f=>z1A ops l fl size i o f
  | _,_=>false)
theorem z0V {ops:Array Oper} {l:List Oper} {fl:Fl} {size i:Nat} {o:Oper} (h:z5a ops l fl size=true) (ho:l[i]? = some o) : ∃ f,fl[i]? = some f∧z1A ops l fl size i o f=true:=by
 simp only [z5a,Bool.and_eq_true,List.all_eq_true,List.mem_range] at h
 have:=h.2.2 i (List.getElem?_eq_some_iff.1 ho).1
 rw [ho] at this
 cases hf:fl[i]? with
 | none=>simp [hf] at this
 | some f=>simp [hf] at this;exact ⟨f,rfl,this⟩
theorem fitT_of {ops:Array Oper} {l:List Oper} {fl:Fl} (hpre : ∀ (i:Nat) (o:Oper),l[i]? = some o→ops[i]? = some o) {size:Nat} (h:z5a ops l fl size=true):Fit ops (l.zip fl):=by
 refine ⟨fun i j a b ha hb hij t ht e=>?_,fun i j a b d ha hb hij hd e=>?_,fun a ha hs=>?_⟩
 ·obtain ⟨o,f⟩:=a
  obtain ⟨o',f'⟩:=b
  obtain ⟨h1,h2⟩:=z1j ha
  obtain ⟨h3,h4⟩:=z1j hb
  obtain ⟨f2,hf2,hc⟩:=z0V h h1
  simp only [z1A,Bool.and_eq_true,List.all_eq_true,List.mem_range] at hc
  have:=(hc.2.2.1 t ht).2 j (List.getElem?_eq_some_iff.1 h3).1
  simp only [Bool.or_eq_true,h3] at this
  rcases this with h5|h5
  ·simp at h5;exact h5 e
  ·obtain ⟨o2,ed,e1,e2,e3,e4⟩:=z0P h5
   have e1':=hpre i o h1
   rw [e1] at e1';cases e1'
   have:=Array.all_eq_true_iff_forall_mem.1 hc.2.1 ed e2
   simp only [e3,Bool.not_true,Bool.false_or,decide_eq_true_eq] at this
   omega
 ·obtain ⟨o,f⟩:=a
  obtain ⟨o',f'⟩:=b
  obtain ⟨h1,h2⟩:=z1j ha
  obtain ⟨h3,h4⟩:=z1j hb
  obtain ⟨f2,hf2,hc⟩:=z0V h h1
  simp only [z1A,Bool.and_eq_true,List.all_eq_true,List.mem_range] at hc
  have:=hc.2.2.2.1 j (List.getElem?_eq_some_iff.1 h3).1
  simp only at hd e
  simp [h3,hd,e] at this
  omega
 ·obtain ⟨i,hi⟩:=List.mem_iff_getElem?.1 ha
  obtain ⟨o,f⟩:=a
  obtain ⟨h1,h2⟩:=z1j hi
  obtain ⟨f2,hf2,hc⟩:=z0V h h1
  rw [h2] at hf2;cases hf2
  simp only [z1A,Bool.and_eq_true] at hc
  have h3:=hc.1
  split at h3
  ·rename_i d hd;exact ⟨d,hd⟩
  ·cases f with
   | none=>cases hs
   | some f=>cases h3
theorem WS.sound {P:Program} {ops:Array Oper} {Q:Exit→ASt→Prop} {o:Oper} {rest:List Oper} {s:ASt} (h:WS P (ops.toList.map (·.dst)) o s (TL P ops Q rest)):TL P ops Q (o :: rest) s:=by
 obtain ⟨hd,h⟩:=h
 split at h
 ·rename_i hg
  exact WO.sound (by simp [z3a,hg]) hd h
 ·rename_i g want hg
  split at h
  ·rename_i t ht
   have ht' : (ops[g]?).bind (·.dst)=some t:=by
    simp only [List.getElem?_map,Option.map_eq_some_iff,Array.getElem?_toList] at ht
    obtain ⟨o',h1,h2⟩:=ht
    rw [h1];exact h2
   split at h
   ·rename_i b hb
    by_cases hbw:b=want
    ·have hw:=(Sq.same (s:=s) (t:=t) (x := .bool want) (by rw [hb,hbw])).weak
     exact TL.weak hw (WO.sound (by simp only [z3a,hg,ht',ASt.get_put,if_true]) (by unfold zC at hd ⊢;exact hd) (h.1 hbw))
    ·have hbn:b=(!want):=by cases b <;> cases want <;> simp_all
     have hw:=(Sq.same (s:=s) (t:=t) (x := .bool (!want)) (by rw [hb,hbn])).weak
     exact TL.weak hw (TL.skip (by simp only [z16,hg,ht',ASt.get_put,if_true];exact .inl trivial) (h.2 hbn) hd.h)
   ·rename_i hb
    exact TL.skip (by simp only [z16,hg,ht'];exact .inr hb) h hd.h
   ·exact h.elim
  ·exact h.elim
def WLW (P:Program) (ds:List (Option Nat)) (Q:ASt→Prop):List Oper→ASt→Prop
 | [],s=>Q s
 | o :: rest,s => ∃ s',zi s s' ∧ WS P ds o s' (WLW P ds Q rest)
theorem WLW.sound {P:Program} {ops:Array Oper} {Q:Exit→ASt→Prop} : ∀ {l:List Oper} {s:ASt},WLW P (ops.toList.map (·.dst)) (Q .normal) l s→TL P ops Q l s
 | [],_,h=>TL.nil h
 | _ :: _,_,⟨_,h1,h2⟩=>TL.weak h1 (WS.sound (WS.mono (fun _ k=>WLW.sound k) h2))
theorem WLW.step {P:Program} {ds:List (Option Nat)} {Q:ASt→Prop} {o:Oper} {rest:List Oper} {s:ASt} (h : ∀ K:ASt→Prop,(∀ s,WLW P ds Q rest s→K s)→WS P ds o s K):WLW P ds Q (o :: rest) s:=⟨s,zi.refl s,h _ fun _ h=>h⟩
theorem WLW.weak {P:Program} {ds:List (Option Nat)} {Q:ASt→Prop} {o:Oper} {rest:List Oper} {s s' : ASt} (hw:zi s s') (h:WLW P ds Q (o :: rest) s'):WLW P ds Q (o :: rest) s:=let ⟨s2,h1,h2⟩:=h;⟨s2,hw.trans h1,h2⟩
theorem WLW.fin {P:Program} {ds:List (Option Nat)} {Q:ASt→Prop} {s:ASt} (h:Q s):WLW P ds Q [] s:=h
def tailB (ops:Array Oper) (n:Nat):Bool:=decide (n≤ops.size)&&((List.range n).all (fun i=>match ops[i]? with|none=>false|some o=>o.after.all (fun e => !Region.binds .any e||decide (e.on<i))) &&
 ((decide (n=ops.size)||(Region.sinkB .any ops n&&Region.chainB .any ops n))&&Region.seqB .any ops (ops.size-n) n (qV ops.size n)))
theorem T.commT {F:Fence} [FOk F] {P:Program} {Q:Exit→ASt→Prop} {s:ASt} {id:Nat} {l:List Oper} (n:Nat) (fl:Fl) (hm:P.follows .mixedOrders=true) (hB:(z1r l&&(z5a l.toArray (l.take n) fl s.n&&tailB l.toArray n))=true)
  (h : ∀ K:ASt→Prop,(∀ s,WLW P (l.map (·.dst)) (Q .normal) (l.drop n) s→K s)→WC P (l.map (·.dst)) K ((l.take n).zip fl) [] [] s):T F P (.region id l.toArray true) Q s:=fun L loc a w hr=>by
 obtain ⟨hnd,hB⟩:=Bool.and_eq_true_iff.1 hB
 obtain ⟨hB,htB⟩:=Bool.and_eq_true_iff.1 hB
 simp only [tailB,Bool.and_eq_true,decide_eq_true_eq,Bool.or_eq_true] at htB
 obtain ⟨hnle,hdep,htail,hseq⟩:=htB
 obtain ⟨lh,hlh⟩ : ∃ lh,lh=l.take n:=⟨_,rfl⟩
 rw [← hlh] at hB h
 have hlhl:lh.length=n:=by rw [hlh,List.length_take];simp at hnle;omega
 have hpre : ∀ (i:Nat) (o:Oper),lh[i]? = some o→l.toArray[i]? = some o:=fun i o hi=>by
  rw [List.getElem?_toArray]
  rw [hlh,List.getElem?_take] at hi
  split at hi
  ·exact hi
  ·cases hi
 have hback : ∀ (i:Nat) (o:Oper),i<n→l.toArray[i]? = some o→lh[i]? = some o:=fun i o hi ho=>by
  rw [hlh,List.getElem?_take,if_pos hi];simpa using ho
 refine wpIn_mono (wpIn_region_any hm (z3G NQ.out (z0i hnd) _ _ _ _ ?_)) fun _ _ _ k=>NQ.post k
 change wpAny P .any l.toArray (z0r L loc w (NQ Q)) _ _ a w.drew
 have hfit:=fitT_of hpre hB
 have hlen:fl.length=lh.length:=by simp only [z5a,Bool.and_eq_true,decide_eq_true_eq] at hB;exact hB.1
 have hsz:l.toArray.size=l.length:=by simp
 have hgd : ∀ x ∈ lh.zip fl,x.2=none→x.1.guard=none:=fun x hx hn=>by
  obtain ⟨i,hi⟩:=List.mem_iff_getElem?.1 hx
  obtain ⟨o,f⟩:=x
  obtain ⟨h1,h2⟩:=z1j hi
  obtain ⟨f2,hf2,hc⟩:=z0V hB h1
  rw [h2] at hf2;cases hf2
  simp only at hn;subst hn
  simp only [z1A,Bool.and_eq_true] at hc
  simpa using hc.2.2.2.2.1
 obtain ⟨fin,hps,hq,ho⟩:=WC.out (ops:=l.toArray) (lh.zip fl) [] [] s hfit (by simpa using h _ fun _ h=>h) (fun p hp=>(by cases hp)) hgd
 obtain ⟨tl,hmem,htl⟩:=ho.mem
 simp only [List.nil_append] at hmem
 have hm' : wct (lh.zip fl)=rkf fl fl.length:=by
  have:=z4R (l:=lh) (fl:=fl) fl.length hlen
  rw [List.take_of_length_le (by simp;omega)] at this
  exact this
 have hpl:hps.length=rkf fl fl.length+1:=by rw [hmem];simp [htl,hm']
 have hn:fin.n=s.n:=ho.n
 -- what a ready operation knows
 have ready : ∀ {listed:Array Bool} {i k:Nat},i ∈ Region.ready .any l.toArray listed→z1p l.toArray i k=true→listed.getD k false=true:=by
  intro listed i k hi he
  obtain ⟨o,e,h1,h2,h3,h4⟩:=z0P he
  obtain ⟨_,o',ho',hall⟩:=mem_ready.1 hi
  rw [h1] at ho';cases ho'
  rw [← h4];exact hall e h2 h3
 let I:Array Bool→Act→World→Prop:=fun listed a' w' => ∃ (j:Nat) (hj:Hp × Nat) (loc' : Nat→Option Value),HeadInv .any l.toArray n listed∧j≤rkf fl fl.length ∧
  (∀ i,fl[i]? = some none→(listed.getD i false=true↔rkf fl i<j))∧hps[j]? = some hj∧Rel All L (midS lh fin listed hj) loc' a' w' ∧ Ext loc w loc' w'
 have looks : ∀ {listed:Array Bool} {i:Nat} {o:Oper} {hj:Hp × Nat},lh[i]? = some o→i ∈ Region.ready .any l.toArray listed → ∀ t ∈ o.looksAt l.toArray,(midS lh fin listed hj).get t=fin.get t:=by
  intro listed i o hj hio hi t ht
  obtain ⟨f,hf,hc⟩:=z0V hB hio
  simp only [z1A,Bool.and_eq_true,List.all_eq_true,List.mem_range] at hc
  obtain ⟨h1,h2⟩:=hc.2.2.1 t ht
  have hk:known lh listed t=true:=by
   simp only [known,List.all_eq_true,List.mem_range,Bool.or_eq_true]
   intro k hk
   have:=h2 k hk
   simp only [Bool.or_eq_true] at this
   exact this.imp (fun h=>h) (fun he=>ready hi he)
  rw [z0y,if_neg (by rw [hk];simp)]
 have dsts : ∀ {i:Nat} {o:Oper} {d:Nat},lh[i]? = some o→o.dst=some d→d<s.n:=by
  intro i o d hio hd
  obtain ⟨f,hf,hc⟩:=z0V hB hio
  simp only [z1A,Bool.and_eq_true] at hc
  have:=hc.1
  rw [hd] at this
  simpa using this
 have hclo : ∀ {listed:Array Bool},HeadInv .any l.toArray n listed → ∀ i k,listed.getD i false=true→z1p l.toArray i k=true→listed.getD k false=true:=fun hin i k hi he=>by
  obtain ⟨o,e,h1,h2,h3,h4⟩:=z0P he
  rw [← h4];exact hin.closed i o h1 hi e h2 h3
 -- the frame after an operation
 have frame : ∀ {listed:Array Bool} {i:Nat} {o:Oper} {hj:Hp × Nat} {av:AV},lh[i]? = some o→i<listed.size→av=dav o fin → ∀ t,(midS lh fin (listed.setIfInBounds i true) hj).get t = .zy∨(midS lh fin (listed.setIfInBounds i true) hj).get t=((midS lh fin listed hj).put o.dst av).get t:=by
  intro listed i o hj av hio hi hav t
  rw [z0y]
  split
  ·left;rfl
  ·rename_i hk
   right
   have old:o.dst ≠ some t→(midS lh fin listed hj).get t=fin.get t:=fun hd=>by
    rw [z0y,if_neg]
    rintro ⟨h1,h2⟩
    refine hk ⟨h1,?_⟩
    cases h3:known lh (listed.setIfInBounds i true) t with
    | false=>rfl
    | true=>rw [z6q hio hi h3 hd] at h2;cases h2
   cases hd:o.dst with
   | none=>exact (old (by rw [hd];intro e;cases e)).symm
   | some d =>
    rw [ASt.get_put]
    split
    ·rename_i e;rw [e,hav];simp [dav,hd]
    ·rename_i e
     exact (old (by rw [hd];intro e';cases e';exact e rfl)).symm
 have toMid : ∀ {listed:Array Bool} {i:Nat} {o:Oper} {hj:Hp × Nat} {av:AV} {loc' : Nat→Option Value} {a' : Act} {w' : World},lh[i]? = some o→i<listed.size→av=dav o fin→Rel All L ((midS lh fin listed hj).put o.dst av) loc' a' w' → Rel All L (midS lh fin (listed.setIfInBounds i true) hj) loc' a' w':=by
  intro listed i o hj av loc' a' w' hio hi hav hrel
  have hput : ∀ (s:ASt) (d:Option Nat) (x:AV),(s.put d x).hp=s.hp∧(s.put d x).n=s.n∧(s.put d x).N=s.N:=fun s d x=>by cases d <;> exact ⟨rfl,rfl,rfl⟩
  obtain ⟨p1,p2,p3⟩:=hput (midS lh fin listed hj) o.dst av
  refine ⟨hrel.defers,hrel.size.trans p2,fun t ht=>?_,by have:=hrel.hp;rw [p1,p3] at this;exact this⟩
  have h1:=hrel.fr t trivial
  rw [p3] at h1
  rcases frame (hj:=hj) hio hi hav t with e|e
  ·rw [e];exact .zy _
  ·rw [e];exact h1
 have hstart:I (Array.replicate l.toArray.size false) a w.drew:=by
  refine ⟨0,(s.hp,s.N),loc,⟨by simp,fun j oj _ hl=>(by rw [getD_replicate_false] at hl;cases hl),fun t _ ht=>getD_in (by simpa using ht) (getD_replicate_false _ _)⟩,Nat.zero_le _,fun i _=>⟨fun hi=>(by rw [getD_replicate_false] at hi;cases hi),fun hi=>absurd hi (Nat.not_lt_zero _)⟩,by rw [hmem];rfl,?_,.of_below (Blw.refl _ _).drew⟩
  have hrd:=hr.below (Blw.refl _ _).drew
  refine ⟨hrd.defers,hrd.size.trans hn.symm,fun t _=>?_,hrd.hp⟩
  rw [z0y]
  split
  ·exact .zy _
  ·rename_i hk
   rw [ho.out t (fun e he hd=>?_)]
   ·exact hrd.fr t trivial
   ·obtain ⟨i,hi⟩:=List.mem_iff_getElem?.1 he
    obtain ⟨o,f⟩:=e
    obtain ⟨h1,h2⟩:=z1j hi
    simp only at hd
    refine hk ⟨by rw [hn];exact dsts h1 hd,?_⟩
    cases h3:known lh (Array.replicate l.toArray.size false) t with
    | false=>rfl
    | true =>
     simp only [known,List.all_eq_true,List.mem_range,Bool.or_eq_true] at h3
     rcases h3 i (List.getElem?_eq_some_iff.1 h1).1 with h3|h3
     ·simp [h1,hd] at h3
     ·rw [getD_replicate_false] at h3;cases h3
 refine z0l (n:=n) (g:=l.toArray.size-n) I (fun _ _ _ ⟨_,_,_,hinv,_⟩=>hinv) (fun listed inv h0=>z0R hnle hdep htail inv h0) ?_ ?_ _ _ _ _ ?_ hstart
 ·-- a step
  intro listed a' w' i ⟨j,hj,loc',hinv,hjm,hwr,hhj,hrel,hext⟩ hin hrdy
  have hsl:listed.size=l.length:=by rw [hinv.size];simp
  have hcl:=hclo hinv
  obtain ⟨hun,o,hio',hall⟩:=mem_ready.1 hrdy
  have hio:lh[i]? = some o:=hback i o hin hio'
  have hil:i<l.length:=by have:=(Array.getElem?_eq_some_iff.1 hio').1;simpa using this
  have hun' : ¬ listed.getD i false=true:=fun e=>by
   have hlt:i<listed.size:=by omega
   simp [hlt] at e hun;rw [e] at hun;cases hun
  obtain ⟨f,hf,hc⟩:=z0V hB hio
  have hzip:(lh.zip fl)[i]? = some (o,f):=by rw [List.getElem?_zip_eq_some];exact ⟨hio,hf⟩
  simp only [z1A,Bool.and_eq_true,List.all_eq_true] at hc
  obtain ⟨_,_,_,_,hc5⟩:=hc
  have hlk:=looks (hj:=hj) hio hrdy
  unfold wpOp
  rw [hio']
  cases f with
  | some lh =>
   obtain ⟨lo,hi⟩:=lh
   simp only [Bool.and_eq_true,Bool.or_eq_true,decide_eq_true_eq,List.any_eq_true,List.mem_range,beq_iff_eq] at hc5
   obtain ⟨c1,c2⟩:=hc5
   have hlo:lo≤j:=by
    rcases c1 with c1|⟨k,_,k1,k2,k3⟩
    ·omega
    ·have:=(hwr k (z1i k1)).1 (ready hrdy k3)
     omega
   have hhi:j≤hi:=by
    rcases c2 with c2|⟨k,_,k1,k2,k3⟩
    ·omega
    ·refine Nat.le_of_not_lt fun hlt=>hun' (hcl k i ((hwr k (z1i k1)).2 (by omega)) k3)
   obtain ⟨d,hd⟩:=hfit.dst _ (List.mem_of_getElem? hzip) rfl
   simp only at hd
   have hgok:=ho.val i o lo hi hzip d hd j hj hlo hhi hhj
   have hrl:Rel (Go.Proofs.YtbkkginjfnjffaaGreatDoor.looks l.toArray o) L ⟨fin.fr,hj.1,fin.n,hj.2⟩ loc' a' w':=⟨hrel.defers,hrel.size,fun t ht=>by have:=hrel.fr t trivial;rw [hlk t ht] at this;exact this,hrel.hp⟩
   have after : ∀ {v:Value} {w2:World},Blw w'.heap.size w' w2→AR hj.2 (Dm L loc') loc' w2 (fin.get d) v→I (listed.setIfInBounds i true) (a'.put o.dst v) w2:=by
    intro v w2 hb hav
    refine ⟨j,hj,loc',hinv.set hrdy hin,hjm,fun k hk=>?_,hhj,?_,hext.trans (.of_below hb)⟩
    ·have hne:i ≠ k:=fun e=>by subst e;rw [hf] at hk;cases hk
     rw [getD_set_ne false hne];exact hwr k hk
    ·refine toMid (av:=fin.get d) hio (by omega) (by simp [dav,hd]) ?_
     exact (hrel.below hb).put' (fun t ht=>by show t<fin.n;rw [hn];exact dsts hio ht) hav
   unfold GOK at hgok
   split at hgok
   ·rename_i hg
    have hw:Region.wanted o (yielded l.toArray a'.tmps)=true:=by simp [Region.wanted,hg]
    simp only [hw,if_true]
    refine .inl ?_
    unfold Oper.wp
    rcases hgok L loc' a' w' hrl with ⟨v,w2,h1,h2,h3⟩|⟨g,args,h1,h2⟩
    ·rw [h1];exact after h2 h3
    ·rw [h1]
     refine h2.mono fun e w2 ⟨v,he,hb,hav⟩=>?_
     subst he
     exact after hb hav
   ·rename_i g want hg
    rcases hgok with ⟨t,b,ht,hb,h3,h4⟩|⟨t,ht,hb,h4⟩
    rotate_left
    ·have htm:t ∈ o.looksAt l.toArray:=List.mem_append.2 (.inr (by rw [hg];simp only [ht];simp))
     have hw:=z3D hrl htm hg ht hb
     simp only [hw,Bool.false_eq_true,if_false]
     exact after (Blw.refl _ _) (by rw [h4];exact .tup [] #[] rfl (fun j x hx=>by simp at hx))
    have htm:t ∈ o.looksAt l.toArray:=List.mem_append.2 (.inr (by rw [hg];simp only [ht];simp))
    have hbt:=z0Q hrl (t:=t) (b:=b) htm hb
    have hwt:Region.wanted o (yielded l.toArray a'.tmps)=(b==want):=by
     simp only [Region.wanted,hg,yielded,ht,hbt,Option.bind_some]
     cases b <;> cases want <;> rfl
    by_cases e:b=want
    ·have hw:Region.wanted o (yielded l.toArray a'.tmps)=true:=by rw [hwt];simpa using e
     simp only [hw,if_true]
     refine .inl ?_
     unfold Oper.wp
     rcases h3 e L loc' a' w' hrl with ⟨v,w2,h1,h2,h3⟩|⟨g,args,h1,h2⟩
     ·rw [h1];exact after h2 h3
     ·rw [h1]
      refine h2.mono fun e w2 ⟨v,he,hb,hav⟩=>?_
      subst he
      exact after hb hav
    ·have hw:Region.wanted o (yielded l.toArray a'.tmps)=false:=by rw [hwt];simpa using e
     simp only [hw,Bool.false_eq_true,if_false]
     exact after (Blw.refl _ _) (by rw [h4 e];exact .tup [] #[] rfl (fun j x hx=>by simp at hx))
  | none =>
   simp only [Bool.and_eq_true,Bool.or_eq_true,decide_eq_true_eq,List.any_eq_true,List.mem_range,beq_iff_eq] at hc5
   obtain ⟨c1,c2⟩:=hc5
   have hge : ¬ rkf fl i<j:=fun e=>hun' ((hwr i hf).2 e)
   have hj' : rkf fl i=j:=by
    rcases c2 with c2|⟨k,_,k1,k2,k3⟩
    ·omega
    ·have hk3:listed.getD k false=true:=by
      simp only [z7K,Bool.or_eq_true,List.any_eq_true,Bool.and_eq_true] at k3
      rcases k3 with k3|⟨j',_,j1,j2⟩
      ·exact ready hrdy k3
      ·exact hcl j' k (ready hrdy j1) j2
     have:=(hwr k (z1i k1)).1 hk3
     omega
   obtain ⟨h1,h2,e1,e2,hwe⟩:=ho.wr i o hzip
   rw [z4R i hlen] at e1 e2
   simp only [List.length_nil,Nat.zero_add,hj'] at e1 e2
   rw [hhj] at e1;cases e1
   have hg:o.guard=none:=by simpa using c1
   have hw:Region.wanted o (yielded l.toArray a'.tmps)=true:=by simp [Region.wanted,hg]
   simp only [hw,if_true]
   refine .inl ?_
   have:=hwe (midS lh fin listed hj) rfl rfl rfl hlk (fun t ht=>by show t<fin.n;rw [hn];exact dsts hio ht) L loc' a' w' hrel
   refine z2f (fun a2 w2 ⟨loc2,hr2,hx2⟩=>?_) (fun _ _ _ h=>h.elim) this
   refine ⟨j+1,h2,loc2,hinv.set hrdy hin,by have:=rkf_lt hf;omega,fun k hk=>?_,e2,?_,hext.trans hx2⟩
   ·by_cases e:i=k
    ·subst e
     have hlt:i<listed.size:=by omega
     simp [hlt];omega
    ·rw [getD_set_ne false e,hwr k hk]
     have:rkf fl k ≠ j:=fun e'=>e (rkf_inj hf hk (hj'.trans e'.symm))
     omega
   ·exact toMid (av:=dav o fin) hio (by omega) rfl hr2
 ·-- the tail
  intro listed a' w' ⟨j,hj,loc',hinv,hjm,hwr,hhj,hrel,hext⟩ h0 f hf
  have hl:=z0v hinv h0
  have all : ∀ i,i<lh.length→listed.getD i false=true:=by
   intro i hi
   rw [hl]
   have:i<l.length:=by simp at hnle;omega
   simp [qV,this];omega
  have hjl:j=rkf fl fl.length:=by
   simp only [z5a,Bool.and_eq_true,Bool.or_eq_true,decide_eq_true_eq,List.any_eq_true,List.mem_range,beq_iff_eq] at hB
   rcases hB.2.1 with h0|⟨i,h1,h2,h3⟩
   ·omega
   ·have:=(hwr i (z1i h2)).1 (all i (by omega))
    omega
  have hlast:hj=(fin.hp,fin.N):=by
   have h1:=ho.last
   rw [List.getLast?_eq_getElem?,hpl] at h1
   rw [hjl] at hhj
   simp only [Nat.add_sub_cancel] at h1
   rw [h1] at hhj
   exact (Option.some.inj hhj).symm
  subst hlast
  have hrf:Rel All L fin loc' a' w':=⟨hrel.defers,hrel.size,fun t _=>by
   have hk:known lh listed t=true:=by
    simp only [known,List.all_eq_true,List.mem_range,Bool.or_eq_true]
    exact fun i hi => .inr (all i hi)
   have h1:=hrel.fr t trivial
   rw [z0y,if_neg (by rw [hk];simp)] at h1
   exact h1,hrel.hp⟩
  have hTL:TL P l.toArray (NQ Q) (l.drop n) fin:=WLW.sound (by rw [show NQ Q .normal=Q .normal from funext (NQ.normal Q)];simpa using hq)
  have hwl:=z0k (fun _ _ _ k=>k.ext hext) (l.drop n) a' w' (hTL L loc' a' w' hrf)
  have hdl:(l.drop n).length=l.toArray.size-n:=by simp
  have:=wpAny_of_seq (md := .any) (Q':=z0r L loc w (NQ Q)) (l.drop n) n listed a' w' (fun j=>by simp [List.getElem?_drop]) (by rw [hdl,hl];exact hseq) hwl
  rw [hdl] at this
  have h2:=z0m _ (f-(l.toArray.size-n)) _ _ _ this
  rwa [show l.toArray.size-n+(f-(l.toArray.size-n))=f by omega] at h2
 ·-- the fuel
  have:qa (Array.replicate l.toArray.size false) n≤n:=by
   unfold qa
   exact Nat.le_trans (List.length_filter_le _ _) (by simp)
  omega
inductive AVles:List AV→List AV→Prop
 | nil:AVles [] []
 | cons {x y:AV} {xs ys:List AV} (h:AVle x y) (k:AVles xs ys):AVles (x :: xs) (y :: ys)
theorem AVles.refl : ∀ xs,AVles xs xs
 | [] => .nil
 | x :: xs => .cons (AVle.refl x) (AVles.refl xs)
theorem AVles.at' {xs ys:List AV} (h:AVles xs ys):ys.length=xs.length ∧ ∀ (j:Nat) y,ys[j]? = some y → ∃ x,xs[j]? = some x∧AVle x y:=by
 induction h with
 | nil=>exact ⟨rfl,fun j y h=>by simp at h⟩
 | cons h _ ih =>
  refine ⟨by simp [ih.1],fun j y hy=>?_⟩
  cases j with
  | zero=>simp at hy;subst hy;exact ⟨_,rfl,h⟩
  | succ j=>obtain ⟨x,h1,h2⟩:=ih.2 j y (by simpa using hy);exact ⟨x,by simpa using h1,h2⟩
theorem zt.args {P:Program} {f:FuncId} {xs ys:List AV} {r:AV} (h:zt P f ys r) (k:AVles xs ys):zt P f xs r:=fun L w vs hL hvs=>h L w vs hL ⟨hvs.1.trans k.at'.1.symm,fun j y v hy hv=>by
 obtain ⟨x,h1,h2⟩:=k.at'.2 j y hy
 exact h2 _ _ _ _ _ (hvs.2 j x v h1 hv)⟩
theorem z6R.args {P:Program} {f:FuncId} {xs ys:List AV} {r:PV} (h:z6R P f ys r) (k:AVles xs ys):z6R P f xs r:=fun L w vs hL hvs=>h L w vs hL ⟨hvs.1.trans k.at'.1.symm,fun j y v hy hv=>by
 obtain ⟨x,h1,h2⟩:=k.at'.2 j y hy
 exact h2 _ _ _ _ _ (hvs.2 j x v h1 hv)⟩
theorem ams:(∀ (fr:List (Nat × AV)) (hp:Hp) (n N t:Nat),ASt.get { fr:=fr,hp:=hp,n:=n,N:=N } t=Option.getD (List.lookup t fr) AV.zy) ∧
  (∀ (fr:List (Nat × AV)) (hp:Hp) (n N t:Nat) (x:AV),ASt.put { fr:=fr,hp:=hp,n:=n,N:=N } (some t) x = { fr:=(t,x) :: fr,hp:=hp,n:=n,N:=N }) ∧
  (∀ (s:ASt) (x:AV),ASt.put s none x=s) ∧
  (∀ {α:Type} (t:Nat),List.lookup t ([] : List (Nat × α))=none) ∧
  (∀ {α:Type} (t k:Nat) (x : α) (l:List (Nat × α)),List.lookup t ((k,x) :: l)=if t=k then some x else List.lookup t l) ∧
  (∀ (k:IntKind) (n:Int),cv (Value.int k n)=AV.p (PV.val (Value.int k n))) ∧
  (∀ (b:Bool),cv (Value.bool b)=AV.p (PV.val (Value.bool b))) ∧
  (∀ (a:Option Addr) (n c:Nat),cv (Value.slice a n c)=AV.p (PV.val (Value.slice a n c))) ∧
  (∀ (s:ByteArray),cv (Value.string s)=AV.p (PV.val (Value.string s))) ∧
  (∀ (a:Option Addr),cv (Value.pointer a)=AV.p (PV.val (Value.pointer a))) ∧
  (∀ {α β:Type} {f : α → β} {a : α} {l:List α},List.map f (a :: l)=f a :: List.map f l) ∧
  (∀ {α β:Type} {f : α → β},List.map f ([] : List α)=([] : List β)) ∧
  (∀ {α:Type} {a : α} {l:List α},(a :: l)[0]? = some a) ∧
  (∀ {α:Type} {a : α} {i:Nat} {l:List α},(a :: l)[i+1]? = l[i]?) ∧
  (∀ {α:Type} {a b : α},Option.getD (some a) b=a) ∧
  (∀ {α:Type} {a : α},Option.getD none a=a) ∧
  (∀ {α β:Type} (a : α) (f : α → β),Option.map f (some a)=some (f a)) ∧
  (∀ {α β:Type} (f : α → β),Option.map f none=none) ∧
  (∀ {α:Type} {x:Decidable True} (t e : α),(if True then t else e)=t) ∧
  (∀ {α:Type} {x:Decidable False} (t e : α),(if False then t else e)=e) ∧
  (∀ (p:Prop),(True∧p)=p) ∧
  (∀ (p:Prop),(p∧True)=p) ∧
  ((!true)=false) ∧
  ((!false)=true) ∧
  ((true=false)=False) ∧
  ((false=true)=False) ∧
  (∀ (p:Prop),(True→p)=p) ∧
  (∀ (p:Prop),(False→p)=True) ∧
  (∀ {α:Type} {a : α} {l1:List α},List.length (a :: l1)=List.length l1+1) ∧
  (∀ {α:Type},List.length ([] : List α)=0) ∧
  (∀ {α:Type} {a : α} {l1:List α} {i:Nat},List.take (i+1) (a :: l1)=a :: List.take i l1) ∧
  (∀ {α:Type} {l:List α},List.take 0 l=([] : List α)) ∧
  (∀ {α:Type} {a : α} {l:List α} {i:Nat},List.drop (i+1) (a :: l)=List.drop i l) ∧
  (∀ {α:Type} {l:List α},List.drop 0 l=l) ∧
  (∀ {α:Type} {a : α} {l1 bs:List α},a :: l1++bs=a :: (l1++bs)) ∧
  (∀ {α:Type} (l1:List α),[]++l1=l1) ∧
  (∀ {α:Type} {i:Nat},List.take i ([] : List α)=([] : List α)) ∧
  (∀ {α:Type} {i:Nat},List.drop i ([] : List α)=([] : List α)) ∧
  (∀ (n:Nat),0+n=n) ∧
  (∀ (n:Nat),n+0=n) ∧
  (∀ (n:Nat),n≤n) ∧
  (∀ (n:Nat),0≤n) ∧
  (∀ {α:Type} (l1:List α),l1 ++ []=l1) ∧
  (∀ {α:Type} {x : α} {xs:List α} {d : α},List.getD (x :: xs) 0 d=x) ∧
  (∀ {α:Type} {x : α} {xs:List α} {n:Nat} {d : α},List.getD (x :: xs) (n+1) d=List.getD xs n d) ∧
  (∀ (n:Nat),Int.toNat (n:Int)=n) ∧
  (Int.toNat 0=0) ∧
  (∀ {α β:Type} {l1:List α} (f : α → β),List.length (List.map f l1)=List.length l1) ∧
  (∀ {α β:Type} {f : α → β} {l:List α} {i:Nat},(List.map f l)[i]? = Option.map f l[i]?) ∧
  (∀ (n:Nat),(0:Int)≤(n:Int)) ∧
  (∀ (t:Nat) (y:AV) (pin:Option Nat) (ty:TypeId) (cs:List AV),AO.sub t y (AO.boxP pin ty cs)=AO.boxP pin ty (List.map (AV.sub t y) cs)) ∧
  (∀ (t:Nat) (y:AV) (e n:Nat) (rows:List (List PV)),AO.sub t y (AO.row e n rows)=AO.row e n rows) ∧
  (∀ (t:Nat) (y:AV) (pin:Option Nat) (P:Program) (k n:Nat) (f:Lit→Option Value),AO.sub t y (AO.map pin P k n f)=AO.map pin P k n f) ∧
  (∀ (t:Nat) (y:AV) (u:Value) (ob:Obj),AO.sub t y (AO.raw u ob)=AO.raw u ob) ∧
  (∀ (t:Nat) (y:AV) (l:Nat) (sp:LSpec) (fr:List (Nat × AV)),AO.sub t y (AO.lrec l sp fr)=AO.lrec l sp (List.map (fun (p:Nat × AV)=>(Prod.fst p,AV.sub t y (Prod.snd p))) fr)) ∧
  (∀ (t:Nat) (y:AV) (e:Nat) (cs:List AV),AO.sub t y (AO.arow e cs)=AO.arow e (List.map (AV.sub t y) cs)) ∧
  (∀ (t:Nat) (y:AV) (e m len:Nat) (cs:List AV),AO.sub t y (AO.afix e m len cs)=AO.afix e m len (List.map (AV.sub t y) cs)) ∧
  (∀ (t:Nat) (y:AV) (x:PV),AV.sub t y (AV.p x)=AV.p x) ∧
  (∀ (t:Nat) (y:AV) (r:List PV) (k:Nat),AV.sub t y (AV.elt r k)=AV.elt r k) ∧
  (∀ (t:Nat) (y:AV) (k j:Nat),AV.sub t y (AV.ptr k j)=if k=t then AV.zy else AV.ptr k j) ∧
  (∀ (t:Nat) (y:AV) (k n i j:Nat),AV.sub t y (AV.rptr k n i j)=if k=t then AV.zy else AV.rptr k n i j) ∧
  (∀ (t:Nat) (y:AV) (k:Nat),AV.sub t y (AV.own k)=if k=t then y else AV.own k) ∧
  (∀ (t:Nat) (y:AV),AV.sub t y AV.zy=AV.zy) ∧
  (∀ (t:Nat) (y:AV),AV.sub t y AV.cap0=AV.cap0) ∧
  (∀ (t:Nat) (y:AV) (cs:List AV),AV.sub t y (AV.agg cs)=AV.agg (List.map (AV.sub t y) cs)) ∧
  (∀ (t:Nat) (y:AV) (f:Fn) (cs:List AV),AV.sub t y (AV.fn f cs)=AV.fn f (List.map (AV.sub t y) cs)) ∧
  (∀ (t:Nat) (y:AV) (cs:List AV),AV.sub t y (AV.tup cs)=AV.tup (List.map (AV.sub t y) cs)) ∧
  (∀ (t:Nat) (y:AV) (k m:Nat),AV.sub t y (AV.pre k m)=if k=t then AV.zy else AV.pre k m) :=
 ⟨@z5b,@z07,@z8j,@qp,@zq,@z4p,@cv_bool,@z7J,@cv_string,@cv_ptr,@List.map_cons.{0,0},@List.map_nil.{0,0},@List.getElem?_cons_zero.{0},@List.getElem?_cons_succ.{0},@Option.getD_some.{0},@Option.getD_none.{0},@Option.map_some.{0,0},@Option.map_none.{0,0},@if_true.{1},@if_false.{1},@true_and,@and_true,@Bool.not_true,@Bool.not_false,@Bool.true_eq_false,@Bool.false_eq_true,@true_implies,@false_implies,@List.length_cons.{0},@List.length_nil.{0},@List.take_succ_cons.{0},@List.take_zero.{0},@List.drop_succ_cons.{0},@List.drop_zero.{0},@List.cons_append.{0},@List.nil_append.{0},@List.take_nil.{0},@List.drop_nil.{0},@Nat.zero_add,@Nat.add_zero,@Nat.le_refl,@Nat.zero_le,@List.append_nil.{0},@List.getD_cons_zero.{0},@List.getD_cons_succ.{0},@Int.toNat_natCast,Int.toNat_zero,@List.length_map.{0,0},@List.getElem?_map.{0,0},@Int.natCast_nonneg,@AO.z2j,@AO.z2X,@AO.z2T,@AO.z2W,@AO.z1h,@AO.z5Y,@AO.z8m,@AV.z6N,@AV.z2S,@AV.z2V,@AV.z1M,@AV.z2U,@AV.z1L,@AV.z1K,@AV.z1J,@AV.z3s,@AV.z1N,@AV.sub_pre⟩
theorem wks:(∀ {α:Type} {b : α} {l:List α} {a : α},a ∈ b :: l↔a=b∨a ∈ l) ∧
  (∀ {α:Type} {a : α},¬a ∈ ([] : List α)) ∧
  (∀ (p:Prop),(p∨False)=p) ∧
  (∀ {α:Type} {a' : α} {P Q : α→Prop},(∀ (a : α),a=a' ∨ Q a→P a)↔P a' ∧ ∀ (a : α),Q a→P a) ∧
  (∀ {α:Type} {p : α→Prop} {a' : α},(∀ (a : α),a=a' → p a)↔p a') ∧
  (∀ (fr:List (Nat × AV)) (hp:Hp) (n N t:Nat),ASt.get { fr:=fr,hp:=hp,n:=n,N:=N } t=Option.getD (List.lookup t fr) AV.zy) ∧
  (∀ {α:Type} (t k:Nat) (x : α) (l:List (Nat × α)),List.lookup t ((k,x) :: l)=if t=k then some x else List.lookup t l) ∧
  (∀ {α:Type} (t:Nat),List.lookup t ([] : List (Nat × α))=none) ∧
  (∀ {α:Type} {a b : α},Option.getD (some a) b=a) ∧
  (∀ {α:Type} {a : α},Option.getD none a=a) ∧
  (∀ (x:AV),AVle x x=True) ∧
  (∀ (n:Nat),AVle (AV.p (PV.val (Value.slice none 0 0))) (AV.p (PV.seq n []))=True) ∧
  (∀ (k:IntKind) (a b:Int),AVle (AV.p (PV.val (Value.int k a))) (AV.p (PV.val (Value.int k b)))=(a=b)) ∧
  (∀ (a b:Bool),AVle (AV.p (PV.val (Value.bool a))) (AV.p (PV.val (Value.bool b)))=(a=b)) ∧
  (∀ (x:AV),AVle x AV.zy=True) ∧
  (∀ (n:Nat) (pin:Option Nat) (ty:TypeId) (cs:List AV),AO.okB n (AO.boxP pin ty cs)=List.all cs (AV.okB n)) ∧
  (∀ (n e m:Nat) (rows:List (List PV)),AO.okB n (AO.row e m rows)=true) ∧
  (∀ (n:Nat) (pin:Option Nat) (P:Program) (k m:Nat) (f:Lit→Option Value),AO.okB n (AO.map pin P k m f)=true) ∧
  (∀ (n:Nat) (u:Value) (ob:Obj),AO.okB n (AO.raw u ob)=true) ∧
  (∀ (n l:Nat) (sp:LSpec) (fr:List (Nat × AV)),AO.okB n (AO.lrec l sp fr)=List.all fr fun (p:Nat × AV)=>AV.okB n (Prod.snd p)) ∧
  (∀ (n e:Nat) (cs:List AV),AO.okB n (AO.arow e cs)=List.all cs (AV.okB n)) ∧
  (∀ (n e m len:Nat) (cs:List AV),AO.okB n (AO.afix e m len cs)=List.all cs (AV.okB n)) ∧
  (∀ (n:Nat) (cs:List AV),AV.okB n (AV.agg cs)=List.all cs (AV.okB n)) ∧
  (∀ (n:Nat) (cs:List AV),AV.okB n (AV.tup cs)=List.all cs (AV.okB n)) ∧
  (∀ (n:Nat) (f:Fn) (cs:List AV),AV.okB n (AV.fn f cs)=List.all cs (AV.okB n)) ∧
  (∀ {α:Type} {a : α} {l:List α} {f : α→Bool},List.all (a :: l) f=(f a&&List.all l f)) ∧
  (∀ {α:Type} {f : α→Bool},List.all ([] : List α) f=true) ∧
  (∀ (b:Bool),(b&&b)=b) ∧
  (∀ (b:Bool),(b&&true)=b) ∧
  (∀ (b:Bool),(true&&b)=b) ∧
  (∀ (h:Decidable True),@decide True h=true) ∧
  (∀ (p:Prop),(True∧p)=p) ∧
  (∀ (p:Prop),(p∧True)=p) ∧
  (∀ (p:Prop),(False→p)=True) :=
 ⟨@List.mem_cons.{0},@List.not_mem_nil.{0},@or_false,@forall_eq_or_imp.{1},@forall_eq.{1},@z5b,@zq,@qp,@Option.getD_some.{0},@Option.getD_none.{0},@AVle_refl,@AVle_nil,@AVle_int,@AVle_bool,@AVle_junk,@AO.zL,@AO.z0H,@AO.z7l,@AO.z3B,@AO.z0b,@AO.z5I,@AO.z0M,@AV.zT,@AV.z5J,@AV.qm,@List.all_cons.{0},@List.all_nil.{0},@Bool.and_self,@Bool.and_true,@Bool.true_and,@decide_true,@true_and,@and_true,@false_implies⟩
set_option linter.defProp false in
def amz := And.intro @WS.eq_1 (And.intro @WH.eq_1 (And.intro @WO.eq_1 (And.intro @WOv.eq_1 (And.intro @WG.eq_1 (And.intro @zC.eq_1 (And.intro @hasDst.eq_1 (And.intro @aop.eq_1 (And.intro @aop.eq_2 (And.intro @aop.eq_3 (And.intro @aop.eq_4 (And.intro @aop.eq_5 (And.intro @aop.eq_6 (And.intro @aop.eq_7 (And.intro @aop.eq_8 (And.intro @aop.eq_9 (And.intro @aop.eq_10 (And.intro @aop.eq_11 (And.intro @aop.eq_12 (And.intro @aop.eq_13 (And.intro @aop.eq_14 (And.intro @aop.eq_15 (And.intro @aop.eq_16 (And.intro @aop.eq_17 (And.intro @aop.eq_18 (And.intro @aop.eq_19 (And.intro @aop.eq_20 (And.intro @aop.eq_21 (And.intro @ASt.ev.eq_1 (And.intro @ASt.ev.eq_2 (And.intro @ASt.ev.eq_3 (And.intro @ASt.ev.eq_4 (And.intro @z4n.eq_1 (And.intro @z4n.eq_2 (And.intro @z4n.eq_3 (And.intro @z4n.eq_4 (And.intro @z1O.eq_1 (And.intro @z3F.eq_1 (And.intro @z3F.eq_2 (And.intro @z3F.eq_3 (And.intro @z3F.eq_4 (And.intro @z0K.eq_1 (And.intro @z0K.eq_2 (And.intro @z0K.eq_3 (And.intro @z0K.eq_4 (And.intro @z0K.eq_5 (And.intro @z0K.eq_6 (And.intro @z0K.eq_7 (And.intro @zf.eq_1 (And.intro @zf.eq_2 (And.intro @zf.eq_3 (And.intro @zf.eq_4 (And.intro @zf.eq_5 (And.intro @zf.eq_6 (And.intro @zf.eq_7 (And.intro @zf.eq_8 (And.intro @zf.eq_9 (And.intro @zf.eq_10 (And.intro @zf.eq_11 (And.intro @zf.eq_12 (And.intro @zf.eq_13 (And.intro @zf.eq_14 (And.intro @zf.eq_15 (And.intro @z2y.eq_1 (And.intro @z2y.eq_2 (And.intro @z2y.eq_3 (And.intro @z2y.eq_4 (And.intro @z2y.eq_5 (And.intro @z2y.eq_6 (And.intro @z2y.eq_7 (And.intro @z2y.eq_8 (And.intro @z2y.eq_9 (And.intro @z2y.eq_10 (And.intro @z2y.eq_11 (And.intro @z2y.eq_12 (And.intro @z2y.eq_13 (And.intro @aun.eq_1 (And.intro @aun.eq_2 (And.intro @aun.eq_3 (And.intro @alen.eq_1 (And.intro @alen.eq_2 (And.intro @alen.eq_3 (And.intro @alen.eq_4 (And.intro @alen.eq_5 (And.intro @alen.eq_6 (And.intro @z0e.eq_1 (And.intro @z0e.eq_2 (And.intro @z0e.eq_3 (And.intro @z0e.eq_4 (And.intro @z0e.eq_5 (And.intro @z0e.eq_6 (And.intro @z0e.eq_7 (And.intro @z0e.eq_8 (And.intro @z0e.eq_9 (And.intro @z0e.eq_10 (And.intro @ASt.add.eq_1 (And.intro @zO.eq_1 (And.intro @qM.eq_1 (And.intro @z7A.eq_1 (And.intro @z2I.eq_1 (And.intro @z2I.eq_2 (And.intro @z1y.eq_1 (And.intro @z6F.eq_1 (And.intro @z6F.eq_2 (And.intro @z6F.eq_3 (And.intro @chunks.eq_1 (And.intro @chunks.eq_2 (And.intro @List.range.eq_1 (And.intro @List.range.loop.eq_1 (And.intro @List.range.loop.eq_2 (And.intro @z7D.eq_1 (And.intro @z7E.eq_1 (And.intro @z3H.eq_1 (And.intro @z3H.eq_2 (And.intro @z3H.eq_3 (And.intro @z3H.eq_4 (And.intro @z3H.eq_5 (And.intro @evI.eq_1 (And.intro @evI.eq_2 (And.intro @ASt.subst.eq_1 (And.intro @AO.box.eq_1 (And.intro @aval.eq_1 (And.intro @aval.eq_2 (And.intro @aval.eq_3 (And.intro @z5Q.eq_1 (And.intro @z5Q.eq_2 (And.intro @z5Q.eq_3 (@ams)))))))))))))))))))))))))))))))))))))))))))))))))))))))))))))))))))))))))))))))))))))))))))))))))))))))))))))))))))))))))))))))
abbrev c0 : Option (Nat × Nat) := some (0,0)
set_option linter.defProp false in
def pz := And.intro @List.mem_cons.{0} (And.intro @List.not_mem_nil.{0} (And.intro @or_false (And.intro @forall_eq_or_imp.{1} (And.intro @forall_eq.{1} (And.intro @zq (And.intro @qp (And.intro @AO.zL (And.intro @AO.z0H (And.intro @AO.z7l (And.intro @AO.z3B (And.intro @AV.zT (And.intro @AV.qm (And.intro @AV.z5J (And.intro @List.all_cons.{0} (And.intro @List.all_nil.{0} (And.intro @Bool.and_true (And.intro @Bool.and_self (And.intro @decide_true (And.intro @true_and (And.intro @and_true (And.intro @Option.isSome_some.{0} (And.intro @true_implies (And.intro @false_implies (And.intro @implies_true.{0} (And.intro @implies_true.{1} (And.intro @and_self (And.intro @Nat.lt_irrefl (@Option.some.injEq.{0}))))))))))))))))))))))))))))
set_option linter.defProp false in
def cz := And.intro @AV.z1c (And.intro @AV.z0h (And.intro @AV.z3m (And.intro @AV.z4a (And.intro @AV.z5d (And.intro @AV.z3Z (And.intro @AV.z2d (And.intro @AV.z3l (And.intro @AV.z2c (And.intro @AV.z3Y (And.intro @AV.z4b (And.intro @List.map_cons.{0,0} (And.intro @List.map_nil.{0,0} (And.intro @List.filter_cons.{0} (And.intro @List.filter_nil.{0} (And.intro @decide_true (And.intro @decide_false (And.intro @Bool.false_eq_true (And.intro @List.cons_append.{0} (And.intro @List.nil_append.{0} (And.intro @List.mem_cons.{0} (And.intro @List.not_mem_nil.{0} (And.intro @or_false (And.intro @false_or (And.intro @or_true (And.intro @true_or (And.intro @z07 (And.intro @z8j (@Nat.le_refl))))))))))))))))))))))))))))
set_option linter.defProp false in
def yb := And.intro @Bool.false_or (And.intro @Bool.true_or (And.intro @cond_true.{1} (And.intro @cond_false.{1} (And.intro @List.nil_append.{0} (@List.cons_append.{0})))))
set_option linter.defProp false in
def yl := And.intro @List.map_cons.{0,0} (@List.map_nil.{0,0})
end Go.Proofs.YtbkkginjfnjffaaGreatDoor
