/- Texts Qd, Qe, Qh, Qn, Qy, Qr, Ua, Ub, Uc, Ud, Uj, Ue, Bb, Uh, Uk. -/
import Derived.Scope
import Derived.Test.YtdlgoofjechocaaGreatDoorZ10
set_option maxHeartbeats 32000000
set_option maxRecDepth 100000
set_option linter.unusedSimpArgs false
set_option linter.unusedVariables false
namespace Go.Proofs.YtdlgoofjechocaaGreatDoor
open Go.RowKit Go.Sort
set_option linter.unusedSectionVars false
theorem z3N {l:List Ev} {p:Ev→Bool} : ∀ {j i:Nat},qA l p j=some i↔i<j∧(l[i]?).any p=true ∧ ∀ k,i<k→k<j→(l[k]?).any p=false
 | 0,i=>by simp [qA]
 | j+1,i=>by
  rw [qA]
  cases h:(l[j]?).any p with
  | true =>
   simp only [if_true,Option.some.injEq]
   constructor
   ·rintro rfl;exact ⟨Nat.lt_succ_self _,h,fun k h1 h2=>by omega⟩
   ·rintro ⟨h1,h2,h3⟩
    by_cases e:i=j
    ·exact e.symm
    ·have:=h3 j (by omega) (Nat.lt_succ_self _);rw [h] at this;cases this
  | false =>
   simp only [Bool.false_eq_true,if_false]
   rw [z3N]
   constructor
   ·rintro ⟨h1,h2,h3⟩
    refine ⟨by omega,h2,fun k h4 h5=>?_⟩
    by_cases e:k=j
    ·rw [e];exact h
    ·exact h3 k h4 (by omega)
   ·rintro ⟨h1,h2,h3⟩
    have:i ≠ j:=fun e=>by rw [e,h] at h2;cases h2
    exact ⟨by omega,h2,fun k h4 h5=>h3 k h4 (by omega)⟩
theorem z5N {l:List Ev} {p:Ev→Bool} : ∀ {j:Nat},qA l p j=none ↔ ∀ k,k<j→(l[k]?).any p=false
 | 0=>by simp [qA]
 | j+1=>by
  rw [qA]
  cases h:(l[j]?).any p with
  | true =>
   simp only [if_true]
   constructor
   ·intro h1;cases h1
   ·intro h1;have:=h1 j (Nat.lt_succ_self _);rw [h] at this;cases this
  | false =>
   simp only [Bool.false_eq_true,if_false]
   rw [z5N]
   constructor
   ·intro h1 k hk
    by_cases e:k=j
    ·rw [e];exact h
    ·exact h1 k (by omega)
   ·intro h1 k hk;exact h1 k (by omega)
theorem z8D {l:List Ev} {p:Ev→Bool} {i j:Nat} : ((l.take j).drop (i+1)).any p=false ↔ ∀ k,i<k→k<j→(l[k]?).any p=false:=by
 rw [List.any_eq_false]
 constructor
 ·intro h k h1 h2
  cases hk:l[k]? with
  | none=>rfl
  | some z =>
   have hm:z ∈ (l.take j).drop (i+1):=List.mem_iff_getElem?.2 ⟨k-(i+1),by rw [List.getElem?_drop,show i+1+(k-(i+1))=k by omega,List.getElem?_take,if_pos h2,hk]⟩
   have:=h z hm
   simpa using this
 ·intro h z hz
  obtain ⟨q,hq⟩:=List.mem_iff_getElem?.1 hz
  rw [List.getElem?_drop,List.getElem?_take] at hq
  split at hq
  ·rename_i hlt
   have:=h (i+1+q) (by omega) hlt
   rw [hq] at this
   simpa using this
  ·cases hq
theorem take_any {l:List Ev} {p:Ev→Bool} {j:Nat} : (l.take j).any p=false ↔ ∀ k,k<j→(l[k]?).any p=false:=by
 rw [List.any_eq_false]
 constructor
 ·intro h k h2
  cases hk:l[k]? with
  | none=>rfl
  | some z =>
   have hm:z ∈ l.take j:=List.mem_iff_getElem?.2 ⟨k,by rw [List.getElem?_take,if_pos h2,hk]⟩
   have:=h z hm
   simpa using this
 ·intro h z hz
  obtain ⟨q,hq⟩:=List.mem_iff_getElem?.1 hz
  rw [List.getElem?_take] at hq
  split at hq
  ·rename_i hlt
   have:=h q hlt
   rw [hq] at this
   simpa using this
  ·cases hq
section
variable {l:List Ev} {i j:Nat} {x y:Ev} (hx:l[i]? = some x) (hy:l[j]? = some y) (hij:i<j)
include hx hij
theorem z7t:qA l (fun d=>d.g==y.g) j=some i↔z1W l x y i j=true:=by
 rw [z3N,z1W,Bool.and_eq_true,Bool.not_eq_true',Bool.not_eq_true',hx]
 simp only [Option.any_some,beq_iff_eq,bne_eq_false_iff_eq,hij,true_and]
 constructor
 ·rintro ⟨h1,h2⟩
  refine ⟨h1,z8D.2 fun k h3 h4=>?_⟩
  rw [h1];exact h2 k h3 h4
 ·rintro ⟨h1,h2⟩
  refine ⟨h1,fun k h3 h4=>?_⟩
  rw [← h1];exact z8D.1 h2 k h3 h4
theorem lastW_iff:qA l (wrAt y.obj y.off) j=some i↔wrAt y.obj y.off x=true∧z6f l y i j=true:=by
 rw [z3N,z6f,Bool.not_eq_true',hx]
 simp only [Option.any_some,hij,true_and]
 have:qE y=wrAt y.obj y.off:=rfl
 rw [this,z8D]
theorem relsW_iff (k:Int):(⟨i,j,k⟩ : Ed) ∈ z2o l y j↔k=y.kind∧rdK y.kind=true∧wrAt y.obj y.off x=true∧z6f l y i j=true:=by
 rw [← lastW_iff hx hij]
 unfold z2o
 cases h:qA l (wrAt y.obj y.off) j with
 | none=>simp
 | some a =>
  simp only [Option.some.injEq]
  split
  ·rename_i hr
   rw [List.mem_singleton]
   simp only [Ed.mk.injEq,Int.natCast_inj,true_and]
   constructor
   ·rintro ⟨h1,h2⟩;exact ⟨h2,hr,h1.symm⟩
   ·rintro ⟨h1,_,h2⟩;exact ⟨h2.symm,h1⟩
  ·rename_i hr
   simp [hr]
theorem relsI_iff (k:Int):(⟨i,j,k⟩ : Ed) ∈ z0I l y j (atL l y.obj y.off j)↔k=y.kind∧z3t y.obj y.off x=true∧z2q x y=true:=by
 unfold z0I atL
 rw [List.mem_map]
 constructor
 ·rintro ⟨a,ha,he⟩
  simp only [Ed.mk.injEq,Int.natCast_inj,true_and] at he
  obtain ⟨rfl,rfl⟩:=he
  obtain ⟨h1,h2⟩:=List.mem_filter.1 ha
  obtain ⟨_,h3⟩:=List.mem_filter.1 h1
  rw [hx,Option.any_some] at h2 h3
  exact ⟨rfl,h3,h2⟩
 ·rintro ⟨rfl,h1,h2⟩
  exact ⟨i,List.mem_filter.2 ⟨List.mem_filter.2 ⟨List.mem_range.2 hij,by rw [hx];exact h1⟩,by rw [hx];exact h2⟩,rfl⟩
include hy
theorem relsA_iff (hv:(qo l).2=true) (k:Int):(⟨i,j,k⟩ : Ed) ∈ z2Y l y j↔(k=0∧z1W l x y i j=true)∨(k=y.kind∧z4g l x y j=true):=by
 have hfirst:z3w l y j=true↔qA l (fun d=>d.g==y.g) j=none:=by
  rw [z5N,z3w,Bool.not_eq_true',take_any]
 unfold z2Y
 cases h:qA l (fun d=>d.g==y.g) j with
 | some a =>
  have hnf:z3w l y j=false:=by
   cases hf:z3w l y j with
   | false=>rfl
   | true=>rw [hfirst.1 hf] at h;cases h
  simp only [z4g,hnf,Bool.and_false,Bool.false_eq_true,and_false,or_false]
  rw [← z7t hx hij,h,List.mem_singleton]
  simp only [Ed.mk.injEq,Int.natCast_inj,true_and,Option.some.injEq]
  constructor
  ·rintro ⟨h1,h2⟩;exact ⟨h2,h1.symm⟩
  ·rintro ⟨h1,h2⟩;exact ⟨h2.symm,h1⟩
 | none =>
  have hf:=hfirst.2 h
  have hnp:z1W l x y i j=false:=by
   cases hp:z1W l x y i j with
   | false=>rfl
   | true=>rw [← z7t hx hij,h] at hp;cases hp
  simp only [hnp,Bool.false_eq_true,and_false,false_or,z4g,hf,Bool.and_true]
  have hs:qA l (qV y.g) j=some i↔((x.kind==14)&&(x.k==y.g))=true:=by
   rw [z3N,hx]
   simp only [Option.any_some,hij,true_and]
   constructor
   ·rintro ⟨h1,_⟩;exact h1
   ·intro h1
    refine ⟨h1,fun q h2 h3=>?_⟩
    cases hz:l[q]? with
    | none=>rfl
    | some z =>
     rw [Option.any_some]
     cases hb:qV y.g z with
     | false=>rfl
     | true =>
      simp only [qV,Bool.and_eq_true,beq_iff_eq] at h1 hb
      exact absurd (h1.2.trans hb.2.symm) (starts_ne hv h2 hx hz h1.1 hb.1)
  rw [← hs]
  cases h2:qA l (qV y.g) j with
  | none=>simp
  | some a =>
   simp only [List.mem_singleton,Ed.mk.injEq,Int.natCast_inj,true_and,Option.some.injEq]
   constructor
   ·rintro ⟨h1,h2⟩;exact ⟨h2,h1.symm⟩
   ·rintro ⟨h1,h2⟩;exact ⟨h2.symm,h1⟩
theorem knd_iff (hv:(qo l).2=true):((z3t y.obj y.off x=true∧z2q x y=true)∨(rdK y.kind=true∧wrAt y.obj y.off x=true∧z6f l y i j=true))↔((x.obj != y.obj)||(x.off != y.off))=false∧kndB l x y i j=true:=by
 have hn:x.kind=17→y.kind=16→x.obj=y.obj→x.n=y.n:=fun h1 h2 h3=>caps_eq hv hij hx hy (by simp [zT,h1]) (by simp [zT,h2]) h3
 simp only [Bool.or_eq_false_iff,bne_eq_false_iff_eq]
 by_cases ho:x.obj=y.obj
 ·by_cases hf:x.off=y.off
  ·simp only [z3t,wrAt,ho,hf,beq_self_eq_true,Bool.and_true,true_and,pubK,z2q,z5o,z5A,rdK,kndB]
   by_cases k15:x.kind=15
   ·simp [k15,aftB,Bool.beq_comm]
   by_cases k17:x.kind=17
   ·simp [k17,aftB]
    intro h1
    rw [hn k17 h1 ho]
   by_cases k19:x.kind=19
   ·simp [k19,aftB]
   by_cases k7:x.kind=7
   ·simp [k7,aftB]
   by_cases k9:x.kind=9
   ·simp [k9,aftB]
   by_cases k10:x.kind=10
   ·simp [k10,aftB]
   by_cases k12:x.kind=12
   ·simp [k12,aftB]
   by_cases k4:x.kind=4
   ·simp [k4,aftB]
   by_cases k5:x.kind=5
   ·simp [k5,aftB]
   simp [k15,k17,k19,k7,k9,k10,k12,k4,k5,aftB]
  ·simp [z3t,wrAt,hf]
 ·simp [z3t,wrAt,ho]
theorem z1l (hv:(qo l).2=true) (k:Int):(⟨i,j,k⟩ : Ed) ∈ z3K l y j↔(k=0∧z1W l x y i j=true)∨(k=y.kind∧(z4g l x y j=true∨(((x.obj != y.obj)||(x.off != y.off))=false∧kndB l x y i j=true))):=by
 unfold z3K
 rw [List.mem_append,List.mem_append,relsA_iff hx hy hij hv,relsI_iff hx hij,relsW_iff hx hij,← knd_iff hx hy hij hv]
 constructor
 ·rintro (((h|h)|h)|h)
  ·exact .inl h
  ·exact .inr ⟨h.1,.inl h.2⟩
  ·exact .inr ⟨h.1,.inr (.inl h.2)⟩
  ·exact .inr ⟨h.1,.inr (.inr h.2)⟩
 ·rintro (h|⟨h1,h2|h2|h2⟩)
  ·exact .inl (.inl (.inl h))
  ·exact .inl (.inl (.inr ⟨h1,h2⟩))
  ·exact .inl (.inr ⟨h1,h2⟩)
  ·exact .inr ⟨h1,h2⟩
omit hij in
theorem z99:immB l x y i j=true↔z1W l x y i j=true∨(z4g l x y j=true∨(((x.obj != y.obj)||(x.off != y.off))=false∧kndB l x y i j=true)):=by
 unfold immB
 cases h1:z1W l x y i j with
 | true=>simp
 | false =>
  cases h2:z4g l x y j with
  | true=>simp
  | false =>
   simp only [Bool.or_self,Bool.false_eq_true,if_false,false_or]
   split
   ·rename_i h3;simp [h3]
   ·rename_i h3
    have:((x.obj != y.obj)||(x.off != y.off))=false:=by simpa using h3
    simp [this]
end
theorem qU {l:List Ev} : ∀ {n:Nat} {x:Ed},x ∈ z00 l n ↔ ∃ j e,j<n∧l[j]? = some e∧x ∈ z3K l e j
 | 0,x=>by simp [z00]
 | n+1,x=>by
  rw [z00,List.mem_append,qU]
  constructor
  ·rintro (⟨j,e,h1,h2,h3⟩|h)
   ·exact ⟨j,e,by omega,h2,h3⟩
   ·cases hn:l[n]? with
    | none=>rw [hn] at h;cases h
    | some e=>rw [hn] at h;exact ⟨n,e,Nat.lt_succ_self _,hn,h⟩
  ·rintro ⟨j,e,h1,h2,h3⟩
   by_cases hj:j=n
   ·subst hj;right;rw [h2];exact h3
   ·exact .inl ⟨j,e,by omega,h2,h3⟩
set_option linter.unusedSectionVars false
theorem z4k {l:List Ev} {m b:Nat} : hbB l m b=true ↔ ∃ i,i<m∧immL l i m=true∧(b=i∨(b<i∧hbB l i b=true)):=by
 rw [hbB_eq,colB,List.any_eq_true]
 simp only [List.mem_range,Nat.zero_le,decide_true,Bool.true_and,Bool.and_eq_true,Bool.or_eq_true,beq_iff_eq,decide_eq_true_eq]
theorem z1Y {l:List Ev} {j:Nat} {e:Ev} (hy:l[j]? = some e) {x:Ed} (h:x ∈ z3K l e j) : ∃ i:Nat,i<j∧x=⟨i,j,x.k⟩:=by
 have hm:x ∈ z00 l (j+1):=qU.2 ⟨j,e,Nat.lt_succ_self _,hy,h⟩
 unfold z3K at h
 rcases List.mem_append.1 h with h|h
 ·rcases List.mem_append.1 h with h|h
  ·unfold z2Y at h
   split at h
   ·rename_i i hi
    rw [List.mem_singleton.1 h]
    exact ⟨i,(z4B hi).1,rfl⟩
   ·split at h
    ·rename_i i hi
     rw [List.mem_singleton.1 h]
     exact ⟨i,(z4B hi).1,rfl⟩
    ·cases h
  ·unfold z0I at h
   obtain ⟨i,hi,rfl⟩:=List.mem_map.1 h
   exact ⟨i,(atL_mem (List.mem_filter.1 hi).1).1,rfl⟩
 ·unfold z2o at h
  split at h
  ·rename_i i hi
   split at h
   ·rw [List.mem_singleton.1 h]
    exact ⟨i,(z4B hi).1,rfl⟩
   ·cases h
  ·cases h
theorem z5e {l:List Ev} (hv:(qo l).2=true) {i j:Nat} {e:Ev} (hy:l[j]? = some e) (hij:i<j):immL l i j=true ↔ ∃ k,(⟨i,j,k⟩ : Ed) ∈ z3K l e j:=by
 have hjl:=(List.getElem?_eq_some_iff.1 hy).1
 obtain ⟨x,hx⟩:=zQ (show i<l.length by omega)
 rw [immL_eq hx hy,z99 hx hy]
 constructor
 ·rintro (h|h)
  ·exact ⟨0,(z1l hx hy hij hv 0).2 (.inl ⟨rfl,h⟩)⟩
  ·exact ⟨e.kind,(z1l hx hy hij hv e.kind).2 (.inr ⟨rfl,h⟩)⟩
 ·rintro ⟨k,hk⟩
  rcases (z1l hx hy hij hv k).1 hk with h|h
  ·exact .inl h.2
  ·exact .inr h.2
theorem z9j {m:Nat} : ∀ (S:List Ed) (f:Nat→Nat→Bool),(∀ x ∈ S,∃ i:Nat,i<m∧x=⟨i,m,x.k⟩) → ∀ a b,S.foldl addE f a b=if a=m then f m b||S.any (fun x=>decide (b≤x.f.toNat)&&f x.f.toNat b) else f a b
 | [],f,_,a,b=>by
  simp only [List.foldl_nil,List.any_nil,Bool.or_false]
  split
  ·rename_i h;rw [h]
  ·rfl
 | x :: S,f,h,a,b=>by
  obtain ⟨i,hi,hxe⟩:=h x (by simp)
  have hf:x.f.toNat=i:=by rw [hxe];simp
  have ht:x.t.toNat=m:=by rw [hxe];simp
  have hadd : ∀ c,c ≠ m→addE f x c=f c:=fun c hc=>by funext d;simp only [addE];rw [ht,if_neg hc]
  have haddm : ∀ d,addE f x m d=(f m d||(decide (d≤i)&&f i d)):=fun d=>by simp only [addE];rw [ht,if_pos rfl,hf]
  rw [List.foldl_cons,z9j S (addE f x) (fun y hy=>h y (by simp [hy])) a b]
  split
  ·rw [haddm,List.any_cons,hf,Bool.or_assoc]
   congr 2
   apply Bool.eq_iff_iff.2
   rw [List.any_eq_true,List.any_eq_true]
   have : ∀ y ∈ S,addE f x y.f.toNat b=f y.f.toNat b:=fun y hy=>by
    obtain ⟨q,hq,hye⟩:=h y (by simp [hy])
    rw [hadd _ (by rw [hye];simp;omega)]
   constructor
   ·rintro ⟨y,hy,h2⟩;exact ⟨y,hy,by rw [← this y hy];exact h2⟩
   ·rintro ⟨y,hy,h2⟩;exact ⟨y,hy,by rw [this y hy];exact h2⟩
  ·rename_i hne;rw [hadd a hne]
theorem fC_eq {l:List Ev} (hv:(qo l).2=true) : ∀ m,m≤l.length → ∀ a b,b≤a→fC (z00 l m) a b=((b==a)||(decide (a<m)&&hbB l a b))
 | 0,_,a,b,_=>by simp [z00,fC,idM]
 | m+1,hm,a,b,hba=>by
  obtain ⟨e,hy⟩:=zQ (show m<l.length by omega)
  have ih:=fC_eq hv m (by omega)
  rw [z2P hy,fC,List.foldl_append]
  change (z3K l e m).foldl addE (fC (z00 l m)) a b=_
  rw [z9j _ _ (fun x hx=>z1Y hy hx)]
  split
  ·rename_i ham
   subst ham
   rw [ih a b hba,show decide (a<a)=false by simp,Bool.false_and,Bool.or_false,show decide (a<a+1)=true by simp,Bool.true_and]
   congr 1
   apply Bool.eq_iff_iff.2
   rw [List.any_eq_true,z4k]
   constructor
   ·rintro ⟨x,hx,h⟩
    obtain ⟨i,hi,hxe⟩:=z1Y hy hx
    rw [hxe] at h hx
    simp only [Int.toNat_natCast,Bool.and_eq_true,decide_eq_true_eq] at h
    obtain ⟨h1,h2⟩:=h
    refine ⟨i,hi,(z5e hv hy hi).2 ⟨_,hx⟩,?_⟩
    rw [ih i b h1] at h2
    simp only [Bool.or_eq_true,beq_iff_eq,Bool.and_eq_true,decide_eq_true_eq] at h2
    rcases h2 with h2|⟨_,h2⟩
    ·exact .inl h2
    ·exact .inr ⟨z4t l i b h2,h2⟩
   ·rintro ⟨i,hi,him,h⟩
    obtain ⟨k,hk⟩:=(z5e hv hy hi).1 him
    refine ⟨_,hk,?_⟩
    have hbi:b≤i:=by rcases h with h|h <;> omega
    simp only [Int.toNat_natCast,Bool.and_eq_true,decide_eq_true_eq]
    refine ⟨hbi,?_⟩
    rw [ih i b hbi]
    simp only [Bool.or_eq_true,beq_iff_eq,Bool.and_eq_true,decide_eq_true_eq]
    rcases h with h|h
    ·exact .inl h
    ·exact .inr ⟨hi,h.2⟩
  ·rename_i ham
   rw [ih a b hba]
   congr 2
   simp;omega
theorem cnM_eq {l:List Ev} (hv:(qo l).2=true) {a b:Nat} (ha:a<l.length) (hb:b≤a):fC (z00 l l.length) a b=((b==a)||hbB l a b):=by
 rw [fC_eq hv _ (Nat.le_refl _) a b hb]
 simp [ha]
def cmpE (x y:Ed):Int:=if x.t ≠ y.t then x.t-y.t else if x.f ≠ y.f then x.f-y.f else x.k-y.k
def eqE (x y:Ed):Bool:=(x.f==y.f)&&(x.t==y.t)
def cmpF (p:Ed):List Ed→List Ed
 | [] => []
 | y :: r=>if eqE y p then cmpF y r else y :: cmpF y r
def z2Z:List Ed→List Ed
 | [] => []
 | x :: r=>x :: cmpF x r
def kltE (x y:Ed):Prop:=x.t<y.t∨(x.t=y.t∧x.f<y.f)
theorem z0u (x y:Ed):eqE x y=true↔x.f=y.f∧x.t=y.t:=by simp [eqE]
theorem z4Y {x y:Ed} : ¬ cmpE y x<0↔kltE x y∨(x.t=y.t∧x.f=y.f∧x.k≤y.k):=by
 unfold cmpE kltE
 split
 ·omega
 ·split
  ·omega
  ·omega
theorem za3 {A B:List Ed} (hA:A.Pairwise kltE) (hB:B.Pairwise kltE) (h : ∀ x,x ∈ A↔x ∈ B):A=B:=by
 induction A generalizing B with
 | nil =>
  cases B with
  | nil=>rfl
  | cons b r=>have:=(h b).2 (by simp);cases this
 | cons a A ih =>
  cases B with
  | nil=>have:=(h a).1 (by simp);cases this
  | cons b B =>
   obtain ⟨a1,a2⟩:=List.pairwise_cons.1 hA
   obtain ⟨b1,b2⟩:=List.pairwise_cons.1 hB
   have hab:a=b:=by
    rcases List.mem_cons.1 ((h a).1 (by simp)) with e|e
    ·exact e
    ·rcases List.mem_cons.1 ((h b).2 (by simp)) with e'|e'
     ·exact e'.symm
     ·have h1:=b1 a e
      have h2:=a1 b e'
      unfold kltE at h1 h2
      omega
   subst hab
   congr 1
   refine ih a2 b2 fun x=>?_
   have hne : ∀ y,kltE a y→y ≠ a:=fun y hy e=>by subst e;unfold kltE at hy;omega
   constructor
   ·intro hx
    rcases List.mem_cons.1 ((h x).1 (by simp [hx])) with e|e
    ·exact absurd e (hne x (a1 x hx))
    ·exact e
   ·intro hx
    rcases List.mem_cons.1 ((h x).2 (by simp [hx])) with e|e
    ·exact absurd e (hne x (b1 x hx))
    ·exact e
theorem z6Y : ∀ {r:List Ed} {p:Ed},(p :: r).Pairwise (fun x y => ¬ cmpE y x<0) → ∀ x,x ∈ cmpF p r↔x ∈ r∧eqE x p=false ∧ ∀ z ∈ r,eqE z x=true→x.k≤z.k
 | [],p,_,x=>by simp [cmpF]
 | y :: r,p,h,x=>by
  obtain ⟨h1,h2⟩:=List.pairwise_cons.1 h
  obtain ⟨h3,h4⟩:=List.pairwise_cons.1 h2
  have ih:=z6Y h2 x
  have hpy:=z4Y.1 (h1 y (by simp))
  have hne : ∀ {a b:Ed},eqE a b=false ↔ ¬ (a.f=b.f∧a.t=b.t):=fun {a b}=>by rw [← z0u];simp
  rw [cmpF]
  split
  ·rename_i he
   have he':=(z0u _ _).1 he
   rw [ih]
   constructor
   ·rintro ⟨q1,q2,q3⟩
    have q2':=hne.1 q2
    refine ⟨by simp [q1],hne.2 (by omega),fun z hz hzx=>?_⟩
    rcases List.mem_cons.1 hz with rfl|hz
    ·have:=(z0u _ _).1 hzx;omega
    ·exact q3 z hz hzx
   ·rintro ⟨q1,q2,q3⟩
    have q2':=hne.1 q2
    rcases List.mem_cons.1 q1 with rfl|q1
    ·omega
    ·exact ⟨q1,hne.2 (by omega),fun z hz=>q3 z (by simp [hz])⟩
  ·rename_i he
   have he' : ¬ (y.f=p.f∧y.t=p.t):=fun h=>he ((z0u _ _).2 h)
   rw [List.mem_cons,ih]
   have hk:kltE p y:=by rcases hpy with h|h;exact h;omega
   constructor
   ·rintro (rfl|⟨q1,q2,q3⟩)
    ·refine ⟨by simp,hne.2 he',fun z hz hzx=>?_⟩
     have hzx':=(z0u _ _).1 hzx
     rcases List.mem_cons.1 hz with rfl|hz
     ·exact Int.le_refl _
     ·have:=z4Y.1 (h3 z hz);unfold kltE at this;omega
    ·have hyx:=z4Y.1 (h3 x q1)
     have q2':=hne.1 q2
     unfold kltE at hk hyx
     refine ⟨by simp [q1],hne.2 (by omega),fun z hz hzx=>?_⟩
     have hzx':=(z0u _ _).1 hzx
     rcases List.mem_cons.1 hz with rfl|hz
     ·omega
     ·exact q3 z hz hzx
   ·rintro ⟨q1,q2,q3⟩
    rcases List.mem_cons.1 q1 with rfl|q1
    ·exact .inl rfl
    ·by_cases hxy:x.f=y.f∧x.t=y.t
     ·left
      have h5:=q3 y (by simp) ((z0u _ _).2 ⟨hxy.1.symm,hxy.2.symm⟩)
      have h6:=z4Y.1 (h3 x q1)
      unfold kltE at h6
      obtain ⟨xf,xt,xk⟩:=x
      obtain ⟨yf,yt,yk⟩:=y
      simp only at h5 h6 hxy
      have:xk=yk:=by omega
      simp [hxy.1,hxy.2,this]
     ·exact .inr ⟨q1,hne.2 hxy,fun z hz=>q3 z (by simp [hz])⟩
theorem z5x : ∀ {r:List Ed} {p:Ed},(p :: r).Pairwise (fun x y => ¬ cmpE y x<0)→(p :: cmpF p r).Pairwise kltE
 | [],p,_=>by simp [cmpF]
 | y :: r,p,h=>by
  obtain ⟨h1,h2⟩:=List.pairwise_cons.1 h
  have ih:=z5x h2
  refine List.pairwise_cons.2 ⟨fun x hx=>?_,?_⟩
  ·obtain ⟨q1,q2,_⟩:=(z6Y h x).1 hx
   have q2' : ¬ (x.f=p.f∧x.t=p.t):=fun e=>by rw [(z0u _ _).2 e] at q2;cases q2
   rcases z4Y.1 (h1 x q1) with h3|h3
   ·exact h3
   ·omega
  ·rw [cmpF]
   split
   ·exact (List.pairwise_cons.1 ih).2
   ·exact ih
theorem cmpct_mem {S:List Ed} (h:S.Pairwise (fun x y => ¬ cmpE y x<0)) (x:Ed):x ∈ z2Z S↔x ∈ S ∧ ∀ z ∈ S,eqE z x=true→x.k≤z.k:=by
 cases S with
 | nil=>simp [z2Z]
 | cons p r =>
  rw [z2Z,List.mem_cons,z6Y h]
  obtain ⟨h1,h2⟩:=List.pairwise_cons.1 h
  constructor
  ·rintro (rfl|⟨q1,q2,q3⟩)
   ·refine ⟨by simp,fun z hz hzx=>?_⟩
    have hzx':=(z0u _ _).1 hzx
    rcases List.mem_cons.1 hz with rfl|hz
    ·exact Int.le_refl _
    ·have:=z4Y.1 (h1 z hz);unfold kltE at this;omega
   ·refine ⟨by simp [q1],fun z hz hzx=>?_⟩
    rcases List.mem_cons.1 hz with rfl|hz
    ·have hzx':=(z0u _ _).1 hzx
     have:eqE x z=true:=(z0u _ _).2 ⟨hzx'.1.symm,hzx'.2.symm⟩
     rw [this] at q2;cases q2
    ·exact q3 z hz hzx
  ·rintro ⟨q1,q3⟩
   by_cases hxp:x.f=p.f∧x.t=p.t
   ·left
    have h5:=q3 p (by simp) ((z0u _ _).2 ⟨hxp.1.symm,hxp.2.symm⟩)
    rcases List.mem_cons.1 q1 with e|e
    ·exact e
    ·have h6:=z4Y.1 (h1 x e)
     unfold kltE at h6
     obtain ⟨xf,xt,xk⟩:=x
     obtain ⟨yf,yt,yk⟩:=p
     simp only at h5 h6 hxp
     have:xk=yk:=by omega
     simp [hxp.1,hxp.2,this]
   ·right
    rcases List.mem_cons.1 q1 with e|e
    ·subst e;exact absurd ⟨rfl,rfl⟩ hxp
    ·refine ⟨e,?_,fun z hz=>q3 z (by simp [hz])⟩
     cases he:eqE x p with
     | false=>rfl
     | true=>exact absurd ((z0u _ _).1 he) hxp
theorem z7O {S:List Ed} (h:S.Pairwise (fun x y => ¬ cmpE y x<0)):(z2Z S).Pairwise kltE:=by
 cases S with
 | nil=>simp [z2Z]
 | cons p r=>exact z5x h
theorem z6Q {l:List Ev} {j:Nat} : ∀ {k:Nat} {x:Ed},x ∈ edJ l j k ↔ ∃ i,i<k∧immL l i j=true∧x=⟨i,j,kdL l i j⟩
 | 0,x=>by simp [edJ]
 | k+1,x=>by
  rw [edJ,List.mem_append,z6Q]
  constructor
  ·rintro (⟨i,h1,h2⟩|h)
   ·exact ⟨i,by omega,h2⟩
   ·split at h
    ·rename_i him;exact ⟨k,Nat.lt_succ_self _,him,List.mem_singleton.1 h⟩
    ·cases h
  ·rintro ⟨i,h1,h2,h3⟩
   by_cases e:i=k
   ·subst e;right;rw [if_pos h2];exact List.mem_singleton.2 h3
   ·exact .inl ⟨i,by omega,h2,h3⟩
theorem z6M {l:List Ev} : ∀ {n:Nat} {x:Ed},x ∈ edU l n ↔ ∃ j i,j<n∧i<j∧immL l i j=true∧x=⟨i,j,kdL l i j⟩
 | 0,x=>by simp [edU]
 | n+1,x=>by
  rw [edU,List.mem_append,z6M,z6Q]
  constructor
  ·rintro (⟨j,i,h1,h2⟩|⟨i,h1,h2⟩)
   ·exact ⟨j,i,by omega,h2⟩
   ·exact ⟨n,i,Nat.lt_succ_self _,h1,h2⟩
  ·rintro ⟨j,i,h1,h2,h3⟩
   by_cases e:j=n
   ·subst e;exact .inr ⟨i,h2,h3⟩
   ·exact .inl ⟨j,i,by omega,h2,h3⟩
theorem z5H {l:List Ev} {j:Nat} : ∀ k,(edJ l j k).Pairwise kltE
 | 0=>by simp [edJ]
 | k+1=>by
  rw [edJ,List.pairwise_append]
  refine ⟨z5H k,?_,fun a ha b hb=>?_⟩
  ·split <;> simp
  ·obtain ⟨i,h1,_,rfl⟩:=z6Q.1 ha
   split at hb
   ·rw [List.mem_singleton.1 hb];right;exact ⟨rfl,by simp only [];omega⟩
   ·cases hb
theorem z5E {l:List Ev} : ∀ n,(edU l n).Pairwise kltE
 | 0=>by simp [edU]
 | n+1=>by
  rw [edU,List.pairwise_append]
  refine ⟨z5E n,z5H n,fun a ha b hb=>?_⟩
  obtain ⟨j,i,h1,_,_,rfl⟩:=z6M.1 ha
  obtain ⟨i',_,_,rfl⟩:=z6Q.1 hb
  left;simp only [];omega
theorem edges_eq {l:List Ev} (hv:(qo l).2=true) (hk : ∀ e ∈ l,0≤e.kind) {S:List Ed} (hp:S.Perm (z00 l l.length)) (hs:S.Pairwise (fun x y => ¬ cmpE y x<0)):z2Z S=edU l l.length:=by
 refine za3 (z7O hs) (z5E _) fun x=>?_
 rw [cmpct_mem hs,z6M]
 have hmem : ∀ z,z ∈ S↔z ∈ z00 l l.length:=fun z=>hp.mem_iff
 constructor
 ·rintro ⟨h1,h2⟩
  obtain ⟨j,e,hj,hy,hx⟩:=qU.1 ((hmem x).1 h1)
  obtain ⟨i,hij,hxe⟩:=z1Y hy hx
  obtain ⟨d,hd⟩:=zQ (show i<l.length by omega)
  rw [hxe] at hx
  refine ⟨j,i,hj,hij,(z5e hv hy hij).2 ⟨_,hx⟩,?_⟩
  rw [hxe,kdL_eq hd hy]
  congr 1
  rcases (z1l hd hy hij hv x.k).1 hx with ⟨h3,h4⟩|⟨h3,h4⟩
  ·rw [h3,if_pos h4]
  ·rw [h3]
   split
   ·rename_i hpg
    have h5:(⟨i,j,0⟩ : Ed) ∈ S:=(hmem _).2 (qU.2 ⟨j,e,hj,hy,(z1l hd hy hij hv 0).2 (.inl ⟨rfl,hpg⟩)⟩)
    have h6:=h2 _ h5 ((z0u _ _).2 ⟨by rw [hxe],by rw [hxe]⟩)
    simp only at h6
    have h7:=hk e (List.mem_of_getElem? hy)
    omega
   ·rfl
 ·rintro ⟨j,i,hj,hij,him,rfl⟩
  obtain ⟨e,hy⟩:=zQ hj
  obtain ⟨d,hd⟩:=zQ (show i<l.length by omega)
  have hall : ∀ z ∈ S,eqE z ⟨i,j,kdL l i j⟩=true→(z.k=0∧z1W l d e i j=true)∨(z.k=e.kind∧(z4g l d e j=true∨(((d.obj != e.obj)||(d.off != e.off))=false∧kndB l d e i j=true))):=fun z hz hze=>by
   obtain ⟨j',e',hj',hy',hz'⟩:=qU.1 ((hmem z).1 hz)
   obtain ⟨i',hij',hzz⟩:=z1Y hy' hz'
   have hze':=(z0u _ _).1 hze
   rw [hzz] at hze'
   simp only [Int.natCast_inj] at hze'
   obtain ⟨rfl,rfl⟩:=hze'
   rw [hy] at hy'
   cases hy'
   rw [hzz] at hz'
   exact (z1l hd hy hij hv z.k).1 hz'
  refine ⟨?_,fun z hz hze=>?_⟩
  ·rw [hmem]
   refine qU.2 ⟨j,e,hj,hy,(z1l hd hy hij hv _).2 ?_⟩
   rw [kdL_eq hd hy]
   rw [immL_eq hd hy,z99 hd hy] at him
   split
   ·rename_i hpg;exact .inl ⟨rfl,hpg⟩
   ·rename_i hpg
    rcases him with h|h
    ·exact absurd h hpg
    ·exact .inr ⟨rfl,h⟩
  ·rw [kdL_eq hd hy]
   rcases hall z hz hze with ⟨h3,h4⟩|⟨h3,h4⟩
   ·rw [h3];simp only [];rw [if_pos h4];exact Int.le_refl _
   ·rw [h3]
    have:=hk e (List.mem_of_getElem? hy)
    simp only []
    split <;> omega
theorem cnM_at {l:List Ev} (hv:(qo l).2=true) {a b:Nat} (ha:a<l.length) (hb:b≤a):cnM l a b=((b==a)||hbB l a b):=cnM_eq hv ha hb
theorem z3P {p q:Nat→Bool} : ∀ {k:Nat},(∀ i,i<k→p i=q i)→rgF p k=rgF q k
 | 0,_=>rfl
 | k+1,h=>by rw [z1c,z1c,z3P (fun i hi=>h i (by omega)),h k (by omega)]
theorem cone_eq (l:List Ev) (j:Int):coneO l j=z4j l j:=by
 unfold coneO z4j
 cases hv:(qo l).2 with
 | false=>simp
 | true =>
  by_cases hj:j<0
  ·simp [hj]
  by_cases hn:(l.length:Int)≤j
  ·simp [hn]
  obtain ⟨b,rfl⟩ : ∃ b:Nat,j=b:=⟨j.toNat,by omega⟩
  simp only [Int.toNat_natCast,hj,hn,decide_false,Bool.not_false,Bool.and_self,if_true,coneB]
  have hb:b<l.length:=by omega
  rw [z1c,cnM_at hv hb (Nat.le_refl b)]
  simp only [beq_self_eq_true,Bool.true_or,if_true]
  congr 1
  refine z3P fun i hi=>?_
  rw [cnM_at hv hb (by omega)]
  have:(i==b)=false:=by simp;omega
  simp [this]
end Go.Proofs.YtdlgoofjechocaaGreatDoor
namespace Go.Proofs.YtdlgoofjechocaaGreatDoor
theorem hb_trans {l:List Ev} : ∀ (k:Nat) {j i:Nat},hbB l k j=true→hbB l j i=true→hbB l k i=true:=by
 intro k
 induction k using Nat.strongRecOn with
 | ind k ih =>
  intro j i h1 h2
  rw [z4k] at h1
  obtain ⟨m,hm,hi,h⟩:=h1
  have hij:=z4t _ _ _ h2
  rw [z4k]
  rcases h with rfl|⟨hjm,h⟩
  ·exact ⟨j,hm,hi,.inr ⟨hij,h2⟩⟩
  ·exact ⟨m,hm,hi,.inr ⟨by omega,ih m hm h h2⟩⟩
theorem hb_imm {l:List Ev} {i j:Nat} (h:i<j) (hi:immL l i j=true):hbB l j i=true:=by
 rw [z4k];exact ⟨i,h,hi,.inl rfl⟩
end Go.Proofs.YtdlgoofjechocaaGreatDoor
namespace Go.Proofs.YtdlgoofjechocaaGreatDoor
open Go.RowKit Go.Sort
end Go.Proofs.YtdlgoofjechocaaGreatDoor
namespace Go.Proofs.YtdlgoofjechocaaGreatDoor
def ledB (l:List Ev) (j n a:Nat):Bool:=(a==j)||(List.range l.length).any fun y=>decide (n≤y)&&(decide (a<y)&&(immL l a y&&((y==j)||hbB l j y)))
theorem ledB_iff {l:List Ev} {j n a:Nat} : ledB l j n a=true↔a=j ∨ ∃ y,y<l.length∧n≤y∧a<y∧immL l a y=true∧(y=j∨hbB l j y=true):=by
 unfold ledB
 rw [Bool.or_eq_true,List.any_eq_true]
 simp only [beq_iff_eq,List.mem_range,Bool.and_eq_true,decide_eq_true_eq,Bool.or_eq_true]
theorem z6o {l:List Ev} : ∀ (j:Nat) {a:Nat},hbB l j a=true ↔ ∃ y,a<y∧y≤j∧immL l a y=true∧(y=j∨hbB l j y=true):=by
 intro j
 induction j using Nat.strongRecOn with
 | ind j ih =>
  intro a
  constructor
  ·intro h
   rw [z4k] at h
   obtain ⟨i,h1,h2,h3⟩:=h
   rcases h3 with rfl|⟨h3,h4⟩
   ·exact ⟨j,h1,Nat.le_refl _,h2,.inl rfl⟩
   ·obtain ⟨y,k1,k2,k3,k4⟩:=(ih i h1).1 h4
    refine ⟨y,k1,by omega,k3,.inr ?_⟩
    rw [z4k]
    rcases k4 with rfl|k4
    ·exact ⟨y,h1,h2,.inl rfl⟩
    ·exact ⟨i,h1,h2,.inr ⟨z4t _ _ _ k4,k4⟩⟩
  ·rintro ⟨y,k1,k2,k3,k4⟩
   rcases k4 with rfl|k4
   ·exact hb_imm k1 k3
   ·exact hb_trans j k4 (hb_imm k1 k3)
theorem z4H {l:List Ev} {j a:Nat} (hj:j<l.length):ledB l j 0 a=((a==j)||hbB l j a):=by
 rw [Bool.eq_iff_iff,ledB_iff,Bool.or_eq_true,beq_iff_eq,z6o]
 refine or_congr Iff.rfl ?_
 constructor
 ·rintro ⟨y,h1,h2,h3,h4,h5⟩
  refine ⟨y,h3,?_,h4,h5⟩
  rcases h5 with rfl|h5
  ·exact Nat.le_refl _
  ·exact Nat.le_of_lt (z4t _ _ _ h5)
 ·rintro ⟨y,h1,h2,h3,h4⟩
  exact ⟨y,by omega,Nat.zero_le _,h1,h3,h4⟩
theorem edU_ends {l:List Ev} {n:Nat} {e:Ed} (h:e ∈ edU l n) : ∃ i j:Nat,i<j∧j<n∧e.f=i∧e.t=j:=by
 obtain ⟨j,i,h1,h2,_,rfl⟩:=z6M.1 h
 exact ⟨i,j,h2,h1,rfl,rfl⟩
theorem z9e {p:Nat→Bool} {n:Nat} : ∀ {d:Nat},(∀ i,n≤i→p i=false)→rgF p (n+d)=rgF p n
 | 0,_=>rfl
 | d+1,h=>by rw [← Nat.add_assoc,z1c,h (n+d) (by omega),if_neg (by simp),List.append_nil,z9e h]
theorem cone_rgF {l:List Ev} (hv:(qo l).2=true) {j:Nat} (hj:j<l.length):coneO l j=rgF (ledB l j 0) l.length:=by
 rw [cone_eq]
 unfold z4j
 have d1:decide ((j:Int)<0)=false:=by simp
 have d2:decide ((l.length:Int)≤(j:Int))=false:=by simp;omega
 rw [hv,d1,d2]
 simp only [Bool.not_false,Bool.and_self,if_true,Int.toNat_natCast]
 have hz : ∀ i,j+1≤i→ledB l j 0 i=false:=fun i hi=>by
  rw [z4H hj]
  have:hbB l j i=false:=by
   cases h:hbB l j i with
   | false=>rfl
   | true=>have:=z4t _ _ _ h;omega
  rw [this];simp;omega
 have:=z9e (n:=j+1) (d:=l.length-(j+1)) hz
 rw [show j+1+(l.length-(j+1))=l.length by omega] at this
 rw [this,z1c,z4H hj]
 simp only [beq_self_eq_true,Bool.true_or,if_true]
 congr 1
 refine z3P fun i hi=>?_
 rw [z4H hj]
 have:(i==j)=false:=by simp;omega
 rw [this];simp
end Go.Proofs.YtdlgoofjechocaaGreatDoor
namespace Go.Proofs.YtdlgoofjechocaaGreatDoor
open Go.RowKit Go.Sort
def Chn (l:List Ev):Nat→Nat→Nat→Prop
 | 0,a,b=>a=b
 | c+1,a,b => ∃ n,a<n∧immL l a n=true∧Chn l c n b
theorem Chn.le {l:List Ev} : ∀ {c a b:Nat},Chn l c a b→a≤b
 | 0,a,b,h=>Nat.le_of_eq h
 | c+1,a,b,⟨n,h1,_,h3⟩=>Nat.le_of_lt (Nat.lt_of_lt_of_le h1 h3.le)
def Dst (l:List Ev) (j a:Nat):Nat→Prop
 | 0 => ∀ c,¬ Chn l c a j
 | v+1=>Chn l v a j ∧ ∀ c,c<v → ¬ Chn l c a j
theorem Dst.uniq {l:List Ev} {j a:Nat} : ∀ {v w:Nat},Dst l j a v→Dst l j a w→v=w
 | 0,0,_,_=>rfl
 | 0,w+1,h,k=>absurd k.1 (h w)
 | v+1,0,h,k=>absurd h.1 (k v)
 | v+1,w+1,h,k=>by
  by_cases e1:v<w
  ·exact absurd h.1 (k.2 v e1)
  ·by_cases e2:w<v
   ·exact absurd k.1 (h.2 w e2)
   ·omega
theorem z90 (l:List Ev) (j:Nat):Dst l j j 1:=⟨rfl,fun c h=>absurd h (Nat.not_lt_zero c)⟩
theorem dst_ex (l:List Ev) (j a:Nat) : ∃ v,Dst l j a v:=by
 by_cases h : ∃ c,Chn l c a j
 ·obtain ⟨c,hc⟩:=h
  have key : ∀ c,Chn l c a j → ∃ v,Dst l j a (v+1):=by
   intro c
   induction c using Nat.strongRecOn with
   | _ c ih =>
    intro hc
    by_cases h2 : ∃ d,d<c∧Chn l d a j
    ·obtain ⟨d,h3,h4⟩:=h2;exact ih d h3 h4
    ·exact ⟨c,hc,fun d hd h=>h2 ⟨d,hd,h⟩⟩
  obtain ⟨v,hv⟩:=key c hc
  exact ⟨v+1,hv⟩
 ·exact ⟨0,fun c hc=>h ⟨c,hc⟩⟩
theorem z6c {l:List Ev} {j a v:Nat} (h:Dst l j a (v+2)) : ∃ n,a<n∧immL l a n=true∧Dst l j n (v+1):=by
 obtain ⟨⟨n,h1,h2,h3⟩,h4⟩:=h
 exact ⟨n,h1,h2,h3,fun c hc h=>h4 (c+1) (by omega) ⟨n,h1,h2,h⟩⟩
theorem z8z {l:List Ev} {j a:Nat} (h:Dst l j a 1):a=j:=h.1
theorem dst_pred {l:List Ev} {j a n v:Nat} (h1:a<n) (h2:immL l a n=true) (h3:Dst l j n (v+1)) : ∃ w,w≤v+1∧Dst l j a (w+1):=by
 obtain ⟨w,hw⟩:=dst_ex l j a
 have hc:Chn l (v+1) a j:=⟨n,h1,h2,h3.1⟩
 cases w with
 | zero=>exact absurd hc (hw _)
 | succ w=>exact ⟨w,Nat.le_of_not_lt fun h=>hw.2 _ h hc,hw⟩
theorem z8V {l:List Ev} {j a v:Nat} (h:Dst l j a (v+1)):a≤j:=h.1.le
theorem z5J {l:List Ev} {j:Nat} : ∀ {c a:Nat},Chn l c a j→a=j∨hbB l j a=true
 | 0,a,h => .inl h
 | c+1,a,⟨n,h1,h2,h3⟩ => .inr (z6o j |>.2 ⟨n,h1,h3.le,h2,z5J h3⟩)
theorem hb_chn {l:List Ev} {j:Nat} : ∀ {d a:Nat},j-a≤d→(a=j∨hbB l j a=true) → ∃ c,Chn l c a j
 | d,a,hd,.inl h=>⟨0,h⟩
 | d,a,hd,.inr h=>by
  obtain ⟨y,h1,h2,h3,h4⟩:=(z6o j).1 h
  cases d with
  | zero=>omega
  | succ d =>
   obtain ⟨c,hc⟩:=hb_chn (d:=d) (by omega) h4
   exact ⟨c+1,y,h1,h3,hc⟩
theorem chn_iff {l:List Ev} {j a:Nat} : (∃ c,Chn l c a j)↔(a=j∨hbB l j a=true):=⟨fun ⟨_,h⟩=>z5J h,hb_chn (Nat.le_refl _)⟩
theorem dst_hb {l:List Ev} {j a v:Nat} (h:Dst l j a v) : 0<v↔(a=j∨hbB l j a=true):=by
 rw [← chn_iff]
 cases v with
 | zero=>exact ⟨fun h=>absurd h (Nat.lt_irrefl 0),fun ⟨c,hc⟩=>absurd hc (h c)⟩
 | succ v=>exact ⟨fun _=>⟨v,h.1⟩,fun _=>Nat.succ_pos v⟩
def upG (g:Nat→Nat) (p v:Nat):Nat→Nat:=fun a=>if a=p then v else g a
theorem z0c (g:Nat→Nat) (p v:Nat):upG g p v p=v:=if_pos rfl
theorem z0g (g:Nat→Nat) {p a:Nat} (v:Nat) (h:a ≠ p):upG g p v a=g a:=if_neg h
def DnG (l:List Ev) (g:Nat→Nat) (a:Nat):Prop := ∀ p,p<a→immL l p a=true → 0<g p
structure BfO (l:List Ev) (i j:Nat) (g:Nat→Nat) (q:List Nat):Prop where
 gj:g j=1
 gi:g i=0
 ex : ∀ a,0<g a→Dst l j a (g a)
 qs : ∀ a ∈ q,0<g a
 so:q.Pairwise fun x y=>g x≤g y
 le : ∀ x,q.head? = some x → ∀ y ∈ q,g y≤g x+1
 dn : ∀ a,0<g a→a ∉ q→DnG l g a
structure BfI (l:List Ev) (i j k:Nat) (S:List Nat) (g:Nat→Nat) (q:List Nat):Prop where
 gj:g j=1
 gi:g i=0
 gk : 0<g k
 ex : ∀ a,0<g a→Dst l j a (g a)
 so:q.Pairwise fun x y=>g x≤g y
 lo : ∀ y ∈ q,g k≤g y
 le : ∀ y ∈ q,g y≤g k+1
 dn : ∀ a,0<g a→a ∉ q→a ≠ k→DnG l g a
 pk : ∀ p ∈ S,0<g p
theorem BfO.start {l:List Ev} {i j:Nat} (h:i ≠ j):BfO l i j (upG (fun _ => 0) j 1) [j] where
 gj:=z0c _ _ _
 gi:=z0g _ _ h
 ex:=fun a ha=>by
  by_cases e:a=j
  ·subst e;rw [z0c];exact z90 l a
  ·rw [z0g _ _ e] at ha;exact absurd ha (Nat.lt_irrefl 0)
 qs:=fun a ha=>by rw [List.mem_singleton.1 ha,z0c];exact Nat.one_pos
 so:=List.pairwise_singleton _ _
 le:=fun x hx y hy=>by
  cases hx;rw [List.mem_singleton.1 hy];omega
 dn:=fun a ha hq=>by
  by_cases e:a=j
  ·exact absurd (List.mem_singleton.2 e) hq
  ·rw [z0g _ _ e] at ha;exact absurd ha (Nat.lt_irrefl 0)
theorem BfO.pop {l:List Ev} {i j k:Nat} {g:Nat→Nat} {q:List Nat} (h:BfO l i j g (k :: q)):BfI l i j k [] g q where
 gj:=h.gj
 gi:=h.gi
 gk:=h.qs k List.mem_cons_self
 ex:=h.ex
 so:=(List.pairwise_cons.1 h.so).2
 lo:=(List.pairwise_cons.1 h.so).1
 le:=fun y hy=>h.le k rfl y (List.mem_cons_of_mem _ hy)
 dn:=fun a ha hq hk=>h.dn a ha fun h=>(List.mem_cons.1 h).elim hk hq
 pk:=fun p hp=>(by cases hp)
theorem BfI.done {l:List Ev} {i j k:Nat} {S:List Nat} {g:Nat→Nat} {q:List Nat} (h:BfI l i j k S g q) (hS : ∀ p,p<k→immL l p k=true→p ∈ S):BfO l i j g q where
 gj:=h.gj
 gi:=h.gi
 ex:=h.ex
 qs:=fun a ha=>Nat.lt_of_lt_of_le h.gk (h.lo a ha)
 so:=h.so
 le:=fun x hx y hy=>by
  have h1:=h.lo x (List.mem_of_mem_head? hx)
  have h2:=h.le y hy
  omega
 dn:=fun a ha hq=>by
  by_cases e:a=k
  ·subst e;exact fun p hp hi=>h.pk p (hS p hp hi)
  ·exact h.dn a ha hq e
theorem BfI.skip {l:List Ev} {i j k p:Nat} {S:List Nat} {g:Nat→Nat} {q:List Nat} (h:BfI l i j k S g q) (hs : 0<g p):BfI l i j k (S ++ [p]) g q :=
 ⟨h.gj,h.gi,h.gk,h.ex,h.so,h.lo,h.le,h.dn,fun x hx=>(List.mem_append.1 hx).elim (h.pk x) fun h1=>by rw [List.mem_singleton.1 h1];exact hs⟩
theorem BfI.near {l:List Ev} {i j k:Nat} {S:List Nat} {g:Nat→Nat} {q:List Nat} (h:BfI l i j k S g q) : ∀ {v a:Nat},v+1<g k→Dst l j a (v+1)→g a=v+1:=by
 intro v
 induction v with
 | zero =>
  intro a hv ha
  rw [z8z ha,h.gj]
 | succ v ih =>
  intro a hv ha
  obtain ⟨n,h1,h2,h3⟩:=z6c ha
  have h4:=ih (by omega) h3
  have h5:n ∉ q:=fun hq=>by have:=h.lo n hq;omega
  have h6:=h.dn n (by omega) h5 (fun e=>by rw [e] at h4;omega) a h1 h2
  exact (h.ex a h6).uniq ha
theorem BfI.near1 {l:List Ev} {i j k:Nat} {S:List Nat} {g:Nat→Nat} {q:List Nat} (h:BfI l i j k S g q) {v a:Nat} (hv:v+1≤g k) (ha:Dst l j a (v+1)):g a=v+1:=by
 cases v with
 | zero=>rw [z8z ha,h.gj]
 | succ v =>
  obtain ⟨n,h1,h2,h3⟩:=z6c ha
  have h4:=h.near (by omega) h3
  have h5:n ∉ q:=fun hq=>by have:=h.lo n hq;omega
  have h6:=h.dn n (by omega) h5 (fun e=>by rw [e] at h4;omega) a h1 h2
  exact (h.ex a h6).uniq ha
theorem BfI.exact {l:List Ev} {i j k:Nat} {S:List Nat} {g:Nat→Nat} {q:List Nat} (h:BfI l i j k S g q) {p:Nat} (hp:p<k) (hi:immL l p k=true) (h0:g p=0):Dst l j p (g k+1):=by
 obtain ⟨v,hv⟩ : ∃ v,g k=v+1:=⟨g k-1,by have:=h.gk;omega⟩
 have hk:=h.ex k h.gk
 rw [hv] at hk
 obtain ⟨w,hw,hd⟩:=dst_pred hp hi hk
 by_cases e:w=v+1
 ·rw [hv,← e];exact hd
 ·have:=h.near1 (by omega) hd
  omega
theorem BfI.set {l:List Ev} {i j k m:Nat} {S:List Nat} {g:Nat→Nat} {q:List Nat} (h:BfI l i j k S g q) (hm:m<k) (hi:immL l m k=true) (h0:g m=0) (hne:m ≠ i):BfI l i j k (S ++ [m]) (upG g m (g k+1)) (q ++ [m]) where
 gj:=by rw [z0g _ _ (fun e=>by rw [← e,h.gj] at h0;cases h0)];exact h.gj
 gi:=by rw [z0g _ _ (fun e=>hne e.symm)];exact h.gi
 gk:=by rw [z0g _ _ (by omega)];exact h.gk
 ex:=fun a ha=>by
  by_cases e:a=m
  ·subst e;rw [z0c];exact h.exact hm hi h0
  ·rw [z0g _ _ e] at ha ⊢;exact h.ex a ha
 so:=by
  have hq : ∀ x ∈ q,x ≠ m:=fun x hx e=>by have:=h.lo x hx;have:=h.gk;rw [e] at *;omega
  rw [List.pairwise_append]
  refine ⟨h.so.imp_of_mem fun {a b} ha hb hab=>?_,List.pairwise_singleton _ _,fun a ha b hb=>?_⟩
  ·rw [z0g _ _ (hq a ha),z0g _ _ (hq b hb)];exact hab
  ·rw [List.mem_singleton.1 hb,z0c,z0g _ _ (hq a ha)];exact h.le a ha
 lo:=fun y hy=>by
  rw [z0g (a:=k) _ _ (by omega)]
  by_cases e:y=m
  ·subst e;rw [z0c];omega
  ·rw [z0g _ _ e]
   rcases List.mem_append.1 hy with h1|h1
   ·exact h.lo y h1
   ·exact absurd (List.mem_singleton.1 h1) e
 le:=fun y hy=>by
  rw [z0g (a:=k) _ _ (by omega)]
  by_cases e:y=m
  ·subst e;rw [z0c];exact Nat.le_refl _
  ·rw [z0g _ _ e]
   rcases List.mem_append.1 hy with h1|h1
   ·exact h.le y h1
   ·exact absurd (List.mem_singleton.1 h1) e
 dn:=fun a ha hq hk p hp hpi=>by
  have e:a ≠ m:=fun e=>hq (List.mem_append.2 (.inr (List.mem_singleton.2 e)))
  rw [z0g _ _ e] at ha
  have:=h.dn a ha (fun h=>hq (List.mem_append.2 (.inl h))) hk p hp hpi
  by_cases e2:p=m
  ·subst e2;rw [z0c];omega
  ·rw [z0g _ _ e2];exact this
 pk:=fun p hp=>by
  by_cases e:p=m
  ·subst e;rw [z0c];omega
  ·rw [z0g _ _ e]
   rcases List.mem_append.1 hp with h1|h1
   ·exact h.pk p h1
   ·exact absurd (List.mem_singleton.1 h1) e
structure BfR (l:List Ev) (i j:Nat) (g:Nat→Nat):Prop where
 gj:g j=1
 ex : ∀ a,0<g a→Dst l j a (g a)
 yes : 0<g i → ∀ a v,v+1<g i→Dst l j a (v+1)→g a=v+1
 no:g i=0 → ∀ a,g a=0→Dst l j a 0
theorem BfO.fin {l:List Ev} {i j:Nat} {g:Nat→Nat} (h:BfO l i j g []):BfR l i j g where
 gj:=h.gj
 ex:=h.ex
 yes:=fun hg=>by rw [h.gi] at hg;exact absurd hg (Nat.lt_irrefl 0)
 no:=fun _ a ha c hc=>by
  have key : ∀ c a,Chn l c a j → 0<g a:=by
   intro c
   induction c with
   | zero=>intro a hc;rw [show a=j from hc,h.gj];exact Nat.one_pos
   | succ c ih =>
    rintro a ⟨n,h1,h2,h3⟩
    exact h.dn n (ih n h3) List.not_mem_nil a h1 h2
  have:=key c a hc
  omega
theorem BfI.brk {l:List Ev} {i j k:Nat} {S:List Nat} {g:Nat→Nat} {q:List Nat} (h:BfI l i j k S g q) (hm:i<k) (hi:immL l i k=true) (hij:i ≠ j):BfR l i j (upG g i (g k+1)) where
 gj:=by rw [z0g _ _ (fun e=>hij e.symm)];exact h.gj
 ex:=fun a ha=>by
  by_cases e:a=i
  ·subst e;rw [z0c];exact h.exact hm hi h.gi
  ·rw [z0g _ _ e] at ha ⊢;exact h.ex a ha
 yes:=fun _ a v hv ha=>by
  rw [z0c] at hv
  have h1:=h.near1 (by omega) ha
  rw [z0g _ _ (fun e=>by rw [e,h.gi] at h1;omega)]
  exact h1
 no:=fun h0=>by rw [z0c] at h0;omega
def uaG (g:Nat→Nat) (n:Nat):Nat:=((List.range n).filter fun a=>g a==0).length
theorem z3E (g:Nat→Nat) (n:Nat):uaG g (n+1)=uaG g n+if g n=0 then 1 else 0:=by
 unfold uaG
 rw [List.range_succ,List.filter_append,List.length_append,List.filter_cons,List.filter_nil]
 by_cases h:g n=0
 ·simp [h]
 ·simp [h]
theorem uaG_out (g:Nat→Nat) {p v:Nat} : ∀ {n:Nat},n≤p→uaG (upG g p v) n=uaG g n
 | 0,_=>rfl
 | n+1,h=>by rw [z3E,z3E,uaG_out g (by omega),z0g _ _ (by omega)]
theorem z8t {g:Nat→Nat} {p v:Nat} (h0:g p=0) (hv : 0<v) : ∀ {n:Nat},p<n→uaG (upG g p v) n+1=uaG g n
 | 0,h=>absurd h (Nat.not_lt_zero p)
 | n+1,h=>by
  rw [z3E,z3E]
  by_cases e:p=n
  ·subst e
   rw [uaG_out g (Nat.le_refl _),z0c,if_pos h0,if_neg (by omega)]
  ·have:=z8t (v:=v) h0 hv (n:=n) (by omega)
   rw [z0g _ _ (fun h=>e h.symm)]
   omega
noncomputable def zU (l:List Ev) (j a:Nat):Nat:=Classical.choose (dst_ex l j a)
theorem z09 (l:List Ev) (j a:Nat):Dst l j a (zU l j a):=Classical.choose_spec (dst_ex l j a)
theorem z2c {l:List Ev} {j a v:Nat} (h:Dst l j a v):zU l j a=v:=(z09 l j a).uniq h
theorem z1n (l:List Ev) (j:Nat):zU l j j=1:=z2c (z90 l j)
theorem z6p {l:List Ev} {j a:Nat} (h:zU l j a=1):a=j:=by
 have:=z09 l j a
 rw [h] at this
 exact z8z this
theorem valD_gt {l:List Ev} {j a:Nat} (h:j<a):zU l j a=0:=by
 have:=z09 l j a
 cases hv:zU l j a with
 | zero=>rfl
 | succ v=>rw [hv] at this;have:=z8V this;omega
theorem z7T {l:List Ev} {j a:Nat} : 0<zU l j a↔(a=j∨hbB l j a=true):=dst_hb (z09 l j a)
noncomputable def folB (l:List Ev) (j k n:Nat):Bool:=decide (k<n)&&(immL l k n&&decide (zU l j n+1=zU l j k))
theorem fol_ex {l:List Ev} {j k:Nat} (h : 2≤zU l j k) : ∃ n,n≤j∧folB l j k n=true:=by
 obtain ⟨v,hv⟩ : ∃ v,zU l j k=v+2:=⟨zU l j k-2,by omega⟩
 have h1:=z09 l j k
 rw [hv] at h1
 obtain ⟨n,h2,h3,h4⟩:=z6c h1
 refine ⟨n,z8V h4,?_⟩
 simp [folB,h2,h3,z2c h4,hv]
noncomputable def nxtC (l:List Ev) (j k:Nat):Nat:=((List.range (j+1)).find? (folB l j k)).getD 0
theorem find_range {p:Nat→Bool} : ∀ {n m:Nat},m<n→p m=true→(∀ a,a<m→p a=false)→(List.range n).find? p=some m
 | n+1,m,h,hp,ha=>by
  rw [List.range_succ,List.find?_append]
  by_cases e:m=n
  ·subst e
   rw [List.find?_eq_none.2 fun a h=>by rw [ha a (List.mem_range.1 h)];simp]
   simp [hp]
  ·rw [find_range (by omega) hp ha];rfl
theorem z9f {l:List Ev} {j k n:Nat} (h2 : 2≤zU l j k) (hp:folB l j k n=true) (ha : ∀ a,a<n→folB l j k a=false):nxtC l j k=n:=by
 unfold nxtC
 have hn:n≤j:=by
  simp only [folB,Bool.and_eq_true,decide_eq_true_eq] at hp
  by_cases h:j<n
  ·have h0:=valD_gt (l:=l) h
   omega
  ·omega
 rw [find_range (by omega) hp ha]
 rfl
theorem z3I {l:List Ev} {j k:Nat} (h : 2≤zU l j k):folB l j k (nxtC l j k)=true ∧ ∀ a,a<nxtC l j k→folB l j k a=false:=by
 have key : ∀ n,(∃ m,m≤n∧folB l j k m=true) → ∃ m,folB l j k m=true ∧ ∀ a,a<m→folB l j k a=false:=by
  intro n
  induction n with
  | zero=>rintro ⟨m,h1,h2⟩;exact ⟨m,h2,fun a ha=>by omega⟩
  | succ n ih =>
   rintro ⟨m,h1,h2⟩
   by_cases e : ∃ m,m≤n∧folB l j k m=true
   ·exact ih e
   ·refine ⟨m,h2,fun a ha=>?_⟩
    cases hb:folB l j k a with
    | false=>rfl
    | true=>exact absurd ⟨a,by omega,hb⟩ e
 obtain ⟨n,h1,h2⟩:=fol_ex h
 obtain ⟨m,h3,h4⟩:=key n ⟨n,Nat.le_refl _,h2⟩
 rw [z9f h h3 h4]
 exact ⟨h3,h4⟩
theorem z3j {l:List Ev} {j k:Nat} (h : 2≤zU l j k):zU l j (nxtC l j k)+1=zU l j k:=by
 have:=(z3I h).1
 simp only [folB,Bool.and_eq_true,decide_eq_true_eq] at this
 exact this.2.2
theorem z5L {l:List Ev} {j k:Nat} (h : 2≤zU l j k):k<nxtC l j k:=by
 have:=(z3I h).1
 simp only [folB,Bool.and_eq_true,decide_eq_true_eq] at this
 exact this.1
theorem z8p {l:List Ev} {j k:Nat} (h : 2≤zU l j k):immL l k (nxtC l j k)=true:=by
 have:=(z3I h).1
 simp only [folB,Bool.and_eq_true,decide_eq_true_eq] at this
 exact this.2.1
theorem z7e {l:List Ev} {j k:Nat} (h : 2≤zU l j k):nxtC l j k≤j:=by
 have:=z3j h
 by_cases e:j<nxtC l j k
 ·rw [valD_gt e] at this;omega
 ·omega
noncomputable def chT (l:List Ev) (j:Nat):Nat→Nat→List Nat
 | 0,_ => []
 | v+1,k=>nxtC l j k :: chT l j v (nxtC l j k)
noncomputable def chC (l:List Ev) (i j:Nat):List Nat:=i :: chT l j (zU l j i-1) i
theorem chT_len (l:List Ev) (j:Nat) : ∀ v k,(chT l j v k).length=v
 | 0,_=>rfl
 | v+1,k=>by rw [chT,List.length_cons,chT_len l j v]
theorem chT_step {l:List Ev} {j k:Nat} (h : 2≤zU l j k):chT l j (zU l j k-1) k=nxtC l j k :: chT l j (zU l j (nxtC l j k)-1) (nxtC l j k):=by
 have:=z3j h
 rw [show zU l j k-1=(zU l j (nxtC l j k)-1)+1 by omega,chT]
theorem z5n {l:List Ev} {j:Nat} : ∀ {d k:Nat},j-k≤d→k≤j→zU l j k≤d+1
 | 0,k,h,hk=>by
  have:k=j:=by omega
  rw [this,z1n];omega
 | d+1,k,h,hk=>by
  by_cases h2 : 2≤zU l j k
  ·have h3:=z3j h2
   have:=z5n (l:=l) (d:=d) (k:=nxtC l j k) (by have:=z5L h2;omega) (z7e h2)
   omega
  ·omega
def bstD (l:List Ev) (f:Nat→Nat) (k:Nat):Nat→Nat
 | 0 => 0
 | m+1=>if decide (0<f (k+1+m))&&(immL l k (k+1+m)&&(bstD l f k m==0||decide (f (k+1+m)+1<bstD l f k m))) then f (k+1+m)+1 else bstD l f k m
theorem z7A (l:List Ev) (f:Nat→Nat) (k:Nat) : ∀ m,(bstD l f k m=0 → ∀ n,k<n→n≤k+m → 0<f n→immL l k n=false)∧(0<bstD l f k m→(∃ n,k<n∧n≤k+m ∧ 0<f n∧immL l k n=true∧bstD l f k m=f n+1) ∧ ∀ n,k<n→n≤k+m → 0<f n→immL l k n=true→bstD l f k m≤f n+1)
 | 0=>⟨fun _ n h1 h2=>by omega,fun h=>absurd h (Nat.lt_irrefl 0)⟩
 | m+1=>by
  obtain ⟨h1,h2⟩:=z7A l f k m
  rw [bstD]
  by_cases hc:(decide (0<f (k+1+m))&&(immL l k (k+1+m)&&(bstD l f k m==0||decide (f (k+1+m)+1<bstD l f k m))))=true
  ·rw [if_pos hc]
   simp only [Bool.and_eq_true,Bool.or_eq_true,decide_eq_true_eq,beq_iff_eq] at hc
   obtain ⟨c1,c2,c3⟩:=hc
   refine ⟨fun h=>by omega,fun _=>⟨⟨k+1+m,by omega,by omega,c1,c2,rfl⟩,fun n n1 n2 n3 n4=>?_⟩⟩
   by_cases e:n=k+1+m
   ·rw [e];exact Nat.le_refl _
   ·rcases c3 with c3|c3
    ·have:=h1 c3 n n1 (by omega) n3
     rw [this] at n4;cases n4
    ·have:=(h2 (by omega)).2 n n1 (by omega) n3 n4
     omega
  ·rw [if_neg hc]
   have hc' : 0<f (k+1+m)→immL l k (k+1+m)=true → 0<bstD l f k m∧bstD l f k m≤f (k+1+m)+1:=fun a b=>by
    simp only [a,b,decide_true,Bool.true_and,Bool.or_eq_true,decide_eq_true_eq,beq_iff_eq,not_or] at hc
    omega
   refine ⟨fun h n n1 n2 n3=>?_,fun h=>⟨?_,fun n n1 n2 n3 n4=>?_⟩⟩
   ·by_cases e:n=k+1+m
    ·subst e
     cases hi:immL l k (k+1+m) with
     | false=>rfl
     | true=>have:=hc' n3 hi;omega
    ·exact h1 h n n1 (by omega) n3
   ·obtain ⟨⟨n,n1,n2,n3,n4,n5⟩,_⟩:=h2 h
    exact ⟨n,n1,by omega,n3,n4,n5⟩
   ·by_cases e:n=k+1+m
    ·subst e;exact (hc' n3 n4).2
    ·exact (h2 h).2 n n1 (by omega) n3 n4
theorem z4K {l:List Ev} {f:Nat→Nat} {j k:Nat} (hk:k<j) (hf : ∀ n,k<n→n≤j→f n=zU l j n):bstD l f k (j-k)=zU l j k:=by
 obtain ⟨h1,h2⟩:=z7A l f k (j-k)
 symm
 apply z2c
 generalize bstD l f k (j-k)=s at h1 h2
 have hdn : ∀ c,Chn l c k j → ∃ n w,k<n∧n≤j∧immL l k n=true∧f n=w+1∧w+1≤c:=fun c hc=>by
  cases c with
  | zero=>rw [show k=j from hc] at hk;omega
  | succ c =>
   obtain ⟨n,n1,n2,n3⟩:=hc
   have n4:=n3.le
   have n5:=z09 l j n
   rw [← hf n n1 n4] at n5
   cases hv:f n with
   | zero=>rw [hv] at n5;exact absurd n3 (n5 c)
   | succ w =>
    rw [hv] at n5
    exact ⟨n,w,n1,n4,n2,hv,Nat.succ_le_succ (Nat.le_of_not_lt fun h=>n5.2 c h n3)⟩
 cases s with
 | zero =>
  intro c hc
  obtain ⟨n,w,n1,n2,n3,n4,n5⟩:=hdn c hc
  have:=h1 rfl n n1 (by omega) (by omega)
  rw [this] at n3;cases n3
 | succ s =>
  obtain ⟨⟨n,n1,n2,n3,n4,n5⟩,h4⟩:=h2 (Nat.succ_pos s)
  have n6:=z09 l j n
  rw [← hf n n1 (by omega)] at n6
  obtain ⟨w,hw⟩ : ∃ w,f n=w+1:=⟨f n-1,by omega⟩
  rw [hw] at n6 n5
  refine ⟨?_,fun c hc h=>?_⟩
  ·rw [show s=w+1 by omega]
   exact ⟨n,n1,n4,n6.1⟩
  ·obtain ⟨n',w',m1,m2,m3,m4,m5⟩:=hdn c h
   have:=h4 n' m1 (by omega) (by omega) m3
   omega
theorem BfR.fol {l:List Ev} {i j k n:Nat} {g:Nat→Nat} (h:BfR l i j g) (hk:g k=zU l j k) (hi:zU l j k≤g i) (h2 : 2≤zU l j k) (hn:k<n) (hm:immL l k n=true):(g n+1=g k)↔folB l j k n=true:=by
 simp only [folB,Bool.and_eq_true,decide_eq_true_eq,hn,hm,true_and]
 rw [hk]
 constructor
 ·intro e
  rw [z2c (h.ex n (by omega))];exact e
 ·intro e
  have h3:=z09 l j n
  obtain ⟨v,hv⟩ : ∃ v,zU l j n=v+1:=⟨zU l j n-1,by omega⟩
  rw [hv] at h3
  rw [h.yes (by omega) n v (by omega) h3];omega
theorem BfR.val {l:List Ev} {i j a:Nat} {g:Nat→Nat} (h:BfR l i j g) (ha : 0<g a):g a=zU l j a:=(z2c (h.ex a ha)).symm
theorem BfR.cone {l:List Ev} {i j:Nat} {g:Nat→Nat} (h:BfR l i j g) (hi:g i=0) (a:Nat):decide (0<g a)=((a==j)||hbB l j a):=by
 rw [Bool.eq_iff_iff,decide_eq_true_eq,Bool.or_eq_true,beq_iff_eq,← z7T]
 constructor
 ·intro ha;rw [← h.val ha];exact ha
 ·intro ha
  by_cases e:g a=0
  ·rw [z2c (h.no hi a e)] at ha;exact absurd ha (Nat.lt_irrefl 0)
  ·omega
theorem BfR.hit {l:List Ev} {i j:Nat} {g:Nat→Nat} (h:BfR l i j g):g i=zU l j i:=by
 by_cases e:g i=0
 ·rw [z2c (h.no e i e),e]
 ·exact h.val (by omega)
def PlcP (l:List Ev) (i j:Int):Prop:=(qo l).2=true ∧ 0≤i∧i<j∧j<(l.length:Int)
structure ChkP (l:List Ev) (i j:Int) (o:Bool) (ev:List Int):Prop where
 plc:PlcP l i j
 rng : ∀ x ∈ ev,0≤x∧x<(l.length:Int)
 inc : ∀ (k:Nat) a b,ev[k]? = some a→ev[k+1]? = some b→a<b
 fst:o=true→ev[0]? = some i
 lst:o=true→ev[ev.length-1]? = some j
 imm:o=true → ∀ (k:Nat) a b,ev[k]? = some a→ev[k+1]? = some b→immL l a.toNat b.toNat=true
 noI:o=false→i ∉ ev
 hasJ:o=false→j ∈ ev
 cls:o=false → ∀ x ∈ ev,∀ m:Nat,(m:Int)<x→immL l m x.toNat=true→(m:Int) ∈ ev
noncomputable def chkB (l:List Ev) (i j:Int) (o:Bool) (ev:List Int):Bool:=@decide (ChkP l i j o ev) (Classical.propDecidable _)
theorem z3J {l:List Ev} {i j:Int} {o:Bool} {ev:List Int} (h:ChkP l i j o ev):chkB l i j o ev=true:=by
 unfold chkB;exact @decide_eq_true _ (Classical.propDecidable _) h
theorem zZ {l:List Ev} {i j:Int} {o:Bool} {ev:List Int} (h : ¬ ChkP l i j o ev):chkB l i j o ev=false:=by
 unfold chkB;exact @decide_eq_false _ (Classical.propDecidable _) h
theorem z6K {l:List Ev} {i j:Int} {o:Bool} {ev:List Int} : chkB l i j o ev=true↔ChkP l i j o ev:=by
 unfold chkB;exact @decide_eq_true_iff _ (Classical.propDecidable _)
theorem ev_chn {l:List Ev} {ev:List Int} {j:Int} (hr : ∀ x ∈ ev,0≤x∧x<(l.length:Int)) (hinc : ∀ (k:Nat) a b,ev[k]? = some a→ev[k+1]? = some b→a<b) (him : ∀ (k:Nat) a b,ev[k]? = some a→ev[k+1]? = some b→immL l a.toNat b.toNat=true) (hl:ev[ev.length-1]? = some j) : ∀ (c k:Nat) (a:Int),k+c+1=ev.length→ev[k]? = some a→Chn l c a.toNat j.toNat
 | 0,k,a,hk,ha=>by
  rw [show ev.length-1=k by omega,ha] at hl
  cases hl;rfl
 | c+1,k,a,hk,ha=>by
  obtain ⟨b,hb⟩:=zQ (show k+1<ev.length by omega)
  have h1:=hinc k a b ha hb
  have h2:=him k a b ha hb
  have h3:=hr a (List.mem_of_getElem? ha)
  have h4:=hr b (List.mem_of_getElem? hb)
  exact ⟨b.toNat,by omega,h2,ev_chn hr hinc him hl c (k+1) b (by omega) hb⟩
theorem ChkP.chn {l:List Ev} {i j:Int} {ev:List Int} (h:ChkP l i j true ev):Chn l (ev.length-1) i.toNat j.toNat:=by
 have h1:=(List.getElem?_eq_some_iff.1 (h.fst rfl)).1
 exact ev_chn h.rng h.inc (h.imm rfl) (h.lst rfl) (ev.length-1) 0 i (by omega) (h.fst rfl)
theorem ChkP.yes {l:List Ev} {i j:Int} {ev:List Int} (h:ChkP l i j true ev) : 0<zU l j.toNat i.toNat∧zU l j.toNat i.toNat≤ev.length:=by
 have h1:=(List.getElem?_eq_some_iff.1 (h.fst rfl)).1
 have h2:=h.chn
 have h3:=z09 l j.toNat i.toNat
 cases hv:zU l j.toNat i.toNat with
 | zero=>rw [hv] at h3;exact absurd h2 (h3 _)
 | succ v =>
  rw [hv] at h3
  refine ⟨Nat.succ_pos v,?_⟩
  by_cases e:ev.length-1<v
  ·exact absurd h2 (h3.2 _ e)
  ·omega
theorem ChkP.sub {l:List Ev} {i j:Int} {ev:List Int} (h:ChkP l i j false ev) : ∀ (c a:Nat),Chn l c a j.toNat→(a:Int) ∈ ev
 | 0,a,hc=>by
  have:=h.hasJ rfl
  have hp:=h.plc
  rw [show a=j.toNat from hc,show ((j.toNat:Nat):Int)=j by have:=hp.2.1;have:=hp.2.2.1;omega]
  exact this
 | c+1,a,⟨n,h1,h2,h3⟩=>h.cls rfl n (h.sub c n h3) a (by omega) (by simpa using h2)
theorem ChkP.no {l:List Ev} {i j:Int} {ev:List Int} (h:ChkP l i j false ev):zU l j.toNat i.toNat=0:=by
 cases hv:zU l j.toNat i.toNat with
 | zero=>rfl
 | succ v =>
  have h3:=z09 l j.toNat i.toNat
  rw [hv] at h3
  have:=h.sub v i.toNat h3.1
  rw [show ((i.toNat:Nat):Int)=i by have:=h.plc.2.1;omega] at this
  exact absurd this (h.noI rfl)
theorem ChkP.kind {l:List Ev} {i j:Int} {o:Bool} {ev:List Int} (h:ChkP l i j o ev):o=decide (0<zU l j.toNat i.toNat):=by
 cases o with
 | true=>exact (decide_eq_true h.yes.1).symm
 | false=>rw [h.no];rfl
def zs (r:List Nat):List Int:=r.map fun (a:Nat)=>(a:Int)
theorem z9F {r:List Nat} {k:Nat} {a:Int} (h:(zs r)[k]? = some a) : ∃ n,r[k]? = some n∧a=n:=by
 rw [zs,List.getElem?_map] at h
 obtain ⟨n,h1,rfl⟩:=Option.map_eq_some_iff.1 h
 exact ⟨n,h1,rfl⟩
theorem z5X {r:List Nat} {a:Int} (h:a ∈ zs r) : ∃ n,n ∈ r∧a=n:=by
 obtain ⟨n,h1,rfl⟩:=List.mem_map.1 h
 exact ⟨n,h1,rfl⟩
theorem z9m {r:List Nat} {n:Nat} (h:n ∈ r):(n:Int) ∈ zs r:=List.mem_map.2 ⟨n,h,rfl⟩
theorem z8B (l:List Ev) (j:Nat) : ∀ (v k:Nat),zU l j k=v+1 → ∀ (q a b:Nat),(k :: chT l j v k)[q]? = some a→(k :: chT l j v k)[q+1]? = some b→a<b∧immL l a b=true
 | 0,k,hv,q,a,b,ha,hb=>by
  rw [chT] at hb
  simp at hb
 | v+1,k,hv,q,a,b,ha,hb=>by
  have h2 : 2≤zU l j k:=by omega
  have h3:=z3j h2
  rw [chT] at ha hb
  cases q with
  | zero =>
   simp only [List.getElem?_cons_zero,Option.some.injEq,Nat.zero_add,List.getElem?_cons_succ] at ha hb
   subst ha hb
   exact ⟨z5L h2,z8p h2⟩
  | succ q =>
   rw [List.getElem?_cons_succ] at ha hb
   exact z8B l j v (nxtC l j k) (by omega) q a b ha hb
theorem z94 (l:List Ev) (j:Nat) : ∀ (v k:Nat),zU l j k=v+1→(k :: chT l j v k)[v]? = some j
 | 0,k,hv=>by rw [List.getElem?_cons_zero,z6p hv]
 | v+1,k,hv=>by
  have h3:=z3j (l:=l) (j:=j) (k:=k) (by omega)
  rw [chT,List.getElem?_cons_succ]
  exact z94 l j v _ (by omega)
theorem chT_le (l:List Ev) (j:Nat) : ∀ (v k:Nat),zU l j k=v+1 → ∀ a ∈ k :: chT l j v k,a≤j
 | 0,k,hv,a,ha=>by
  rw [chT,List.mem_singleton] at ha
  rw [ha,z6p hv];exact Nat.le_refl _
 | v+1,k,hv,a,ha=>by
  have h2 : 2≤zU l j k:=by omega
  have h3:=z3j h2
  rw [chT] at ha
  rcases List.mem_cons.1 ha with rfl|h
  ·have:=z5L h2;have:=z7e h2;omega
  ·exact chT_le l j v _ (by omega) a h
theorem chC_len {l:List Ev} {i j:Nat} (h : 0<zU l j i):(chC l i j).length=zU l j i:=by
 rw [chC,List.length_cons,chT_len];omega
theorem z9G {l:List Ev} {i j:Nat} (hp:PlcP l i j) (h : 0<zU l j i):ChkP l i j true (zs (chC l i j)):=by
 obtain ⟨v,hv⟩ : ∃ v,zU l j i=v+1:=⟨zU l j i-1,by omega⟩
 have he:chC l i j=i :: chT l j v i:=by rw [chC,hv];rfl
 have hl:=chC_len h
 refine ⟨hp,fun x hx=>?_,fun k a b ha hb=>?_,fun _=>?_,fun _=>?_,fun _ k a b ha hb=>?_,fun h=>(by cases h),fun h=>(by cases h),fun h=>(by cases h)⟩
 ·obtain ⟨n,h1,rfl⟩:=z5X hx
  rw [he] at h1
  have:=chT_le l j v i hv n h1
  have:=hp.2.2.2
  omega
 ·obtain ⟨m,h1,rfl⟩:=z9F ha
  obtain ⟨n,h2,rfl⟩:=z9F hb
  rw [he] at h1 h2
  have:=(z8B l j v i hv k m n h1 h2).1
  omega
 ·rw [he];rfl
 ·have:=z94 l j v i hv
  rw [zs,List.getElem?_map,List.length_map,hl,hv,he,Nat.add_sub_cancel,this];rfl
 ·obtain ⟨m,h1,rfl⟩:=z9F ha
  obtain ⟨n,h2,rfl⟩:=z9F hb
  rw [he] at h1 h2
  simpa using (z8B l j v i hv k m n h1 h2).2
theorem z2H {l:List Ev} (hv:(qo l).2=true) {j:Nat} (hj:j<l.length) {a:Nat} : a ∈ z4j l j↔(a=j∨hbB l j a=true):=by
 have d1:decide ((j:Int)<0)=false:=by simp
 have d2:decide ((l.length:Int)≤(j:Int))=false:=by simp;omega
 unfold z4j
 rw [hv,d1,d2]
 simp only [Bool.not_false,Bool.and_self,if_true,Int.toNat_natCast,List.mem_append,List.mem_singleton,rgF,List.mem_filter,List.mem_range]
 constructor
 ·rintro (⟨_,h⟩|h)
  ·exact .inr h
  ·exact .inl h
 ·rintro (h|h)
  ·exact .inr h
  ·exact .inl ⟨z4t l j a h,h⟩
theorem z7k (p:Nat→Bool) : ∀ (n:Nat),((List.range n).filter p).Pairwise (· < ·):=fun n=>(List.pairwise_lt_range (n:=n)).filter _
theorem coneR_inc {l:List Ev} {j:Nat} : (z4j l j).Pairwise (· < ·):=by
 unfold z4j
 split
 ·rw [Int.toNat_natCast,List.pairwise_append]
  refine ⟨z7k _ _,List.pairwise_singleton _ _,fun a ha b hb=>?_⟩
  rw [List.mem_singleton.1 hb]
  have:=(List.mem_filter.1 ha).1
  exact List.mem_range.1 this
 ·exact List.Pairwise.nil
theorem cone_fits {l:List Ev} {i j:Nat} (hp:PlcP l i j) (h:zU l j i=0):ChkP l i j false (zs (z4j l j)):=by
 have hj:j<l.length:=by have:=hp.2.2.2;omega
 refine ⟨hp,fun x hx=>?_,fun k a b ha hb=>?_,fun h=>(by cases h),fun h=>(by cases h),fun h=>(by cases h),fun _ hx=>?_,fun _=>?_,fun _ x hx m hm hi=>?_⟩
 ·obtain ⟨n,h1,rfl⟩:=z5X hx
  rcases (z2H hp.1 hj).1 h1 with h2|h2
  ·omega
  ·have:=z4t l j n h2;omega
 ·obtain ⟨m,h1,rfl⟩:=z9F ha
  obtain ⟨n,h2,rfl⟩:=z9F hb
  have h3:=List.pairwise_iff_getElem.1 (coneR_inc (l:=l) (j:=j)) k (k+1) (List.getElem?_eq_some_iff.1 h1).1 (List.getElem?_eq_some_iff.1 h2).1 (by omega)
  rw [(List.getElem?_eq_some_iff.1 h1).2,(List.getElem?_eq_some_iff.1 h2).2] at h3
  omega
 ·obtain ⟨n,h1,h2⟩:=z5X hx
  have h3:n=i:=by omega
  subst h3
  have:=z7T.2 ((z2H hp.1 hj).1 h1)
  omega
 ·exact z9m ((z2H hp.1 hj).2 (.inl rfl))
 ·obtain ⟨n,h1,rfl⟩:=z5X hx
  rw [Int.toNat_natCast] at hi
  have h2:=(z2H hp.1 hj).1 h1
  have hnj:n≤j:=by
   rcases h2 with h2|h2
   ·omega
   ·exact Nat.le_of_lt (z4t l j n h2)
  exact z9m ((z2H hp.1 hj).2 (.inr ((z6o j).2 ⟨n,by omega,hnj,hi,h2⟩)))
end Go.Proofs.YtdlgoofjechocaaGreatDoor
namespace Go.Proofs.YtdlgoofjechocaaGreatDoor
open Go.RowKit Go.Sort Go.Maps
theorem zk.newrowA (s:ASt) (t j e0 e n:Nat) (cs:List AV) (hlk:s.hp.lookup t=some (.arow e0 cs)) (hj:cs[j]? = some (.p (.val (.slice none 0 0)))):zk s { s with hp:=(s.N,.row e n []) :: zF s.hp t (.arow e0 (cs.set j (.own s.N))),N:=s.N+1 }:=fun L loc a w hr=>by
 have hb:=Blw.refl w.heap.size w
 have htN:=(hr.hp.at' t _ hlk).1
 have h1:=hr.add hb (.slice none 0 0) (.row e n []) (fun b e=>by cases e) ⟨[],World.ownsRow_nil _ _ _ _,fun r hr=>(by cases hr),fun k r j x h=>(by simp at h),fun v hv=>(by cases hv)⟩
 refine ⟨zO loc s.N (.slice none 0 0),?_,.add hb _ _ (fun b e=>by cases e)⟩
 have hlk2:(s.add (.row e n [])).hp.lookup t=some (.arow e0 cs):=by
  show List.lookup t ((s.N,_) :: s.hp)=_
  rw [ze (by omega)];exact hlk
 have h2:Rel All L { s with hp:=(s.N,.row e n []) :: zF s.hp t (.arow e0 (cs.set j (.own s.N))),N:=s.N+1 } (zO loc s.N (.slice none 0 0)) a w:=by
  refine ⟨h1.defers,h1.size,h1.fr,⟨fun k o hk=>?_,fun k hk=>?_,h1.hp.apart,h1.hp.inL,h1.hp.notL⟩⟩
  ·by_cases ek:k=s.N
   ·subst ek
    rw [zi] at hk;cases hk
    exact h1.hp.at' s.N _ (by show List.lookup s.N ((s.N,_) :: s.hp)=_;rw [zi])
   ·rw [ze ek,zB] at hk
    by_cases et:k=t
    ·subst et
     rw [if_pos rfl,hlk] at hk
     cases hk
     obtain ⟨q0,u,hu,flat,q1,q3,q4⟩:=h1.hp.at' k _ hlk2
     refine ⟨q0,u,hu,flat,by simpa using q1,fun i x hx=>?_,q4⟩
     rw [List.getElem?_set] at hx
     split at hx
     ·rename_i e1
      subst e1
      split at hx
      ·cases hx
       obtain ⟨v,h5,h6⟩:=q3 j _ hj
       refine ⟨v,h5,?_⟩
       have h7:=h6.val
       rw [h7]
       exact .own s.N _ (Nat.lt_succ_self _) rfl fun z hz=>by rw [zG] at hz;cases hz;rfl
      ·cases hx
     ·exact q3 i x hx
    ·rw [if_neg et] at hk
     exact h1.hp.at' k o (by show List.lookup k ((s.N,_) :: s.hp)=_;rw [ze ek];exact hk)
  ·by_cases ek:k=s.N
   ·subst ek;rw [zi] at hk;cases hk
   ·rw [ze ek,zB] at hk
    by_cases et:k=t
    ·subst et;rw [if_pos rfl,hlk] at hk;cases hk
    ·rw [if_neg et] at hk
     exact h1.hp.dead k (by show List.lookup k ((s.N,_) :: s.hp)=_;rw [ze ek];exact hk)
 exact h2
theorem mat_snocL (e n b:Nat) (R:List (List (List PV))) (r:List (List PV)) (k:Nat):(mat e n b (R ++ [r])).lookup k=if k=b+R.length then some (.row e n r) else (mat e n b R).lookup k:=by
 rw [z6e,qg]
 by_cases h:k=b+R.length
 ·subst h
  rw [if_pos rfl,z5Y _ _ _ _ _ (Nat.le_refl _),zi];rfl
 ·rw [if_neg h,ze h];simp
theorem zk.nilsA (t e0 e:Nat) (fr:List (Nat × AV)) (m b n:Nat) (H:Hp) (ht:H.lookup t=some (.arow e0 (List.replicate n (.p (.val nilV))))) (htb:t<b) (hH : ∀ k,b≤k→H.lookup k=none) :
  ∀ j,j≤n→zk ⟨fr,H,m,b⟩ ⟨fr,zF H t (.arow e0 (owns b j++List.replicate (n-j) (.p (.val nilV))))++mat e 1 b (List.replicate j []),m,b+j⟩
 | 0,_=>zk.hpe ⟨fr,H,m,b⟩ _ fun k=>by
  rw [qg,zB]
  simp only [owns,List.nil_append,Nat.sub_zero,List.replicate_zero,mat,List.lookup_nil,Option.or_none]
  by_cases h:k=t
  ·subst h;rw [if_pos rfl,ht];rfl
  ·rw [if_neg h]
 | j+1,h=>by
  refine (zk.nilsA t e0 e fr m b n H ht htb hH j (by omega)).trans ?_
  have hlk:List.lookup t (zF H t (.arow e0 (owns b j++List.replicate (n-j) (.p (.val nilV))))++mat e 1 b (List.replicate j []))=some (.arow e0 (owns b j++List.replicate (n-j) (.p (.val nilV)))):=by
   rw [qg,zB,if_pos rfl,ht];rfl
  have hjj:(owns b j++List.replicate (n-j) (AV.p (.val nilV)))[j]? = some (.p (.val (.slice none 0 0))):=by
   rw [List.getElem?_append_right (by rw [z1d];exact Nat.le_refl _),z1d,Nat.sub_self,List.getElem?_replicate,if_pos (by omega)]
  refine (zk.newrowA _ t j e0 e 1 _ hlk hjj).trans ?_
  have hcs:(owns b j++List.replicate (n-j) (AV.p (.val nilV))).set j (.own (b+j))=owns b (j+1)++List.replicate (n-(j+1)) (.p (.val nilV)):=by
   rw [List.set_append_right _ _ (by rw [z1d];exact Nat.le_refl _),z1d,Nat.sub_self,show n-j=(n-(j+1))+1 by omega,List.replicate_succ,List.set_cons_zero,z7B,List.append_assoc,Nat.add_comm b j]
   rfl
  simp only [hcs]
  refine zk.hpe _ _ fun k=>?_
  rw [qg,zB,List.replicate_succ',mat_snocL,List.length_replicate]
  by_cases hk:k=t
  ·subst hk
   rw [if_pos rfl,ht,ze (by omega),zB,if_pos rfl,hlk];rfl
  ·rw [if_neg hk]
   by_cases hk2:k=b+j
   ·subst hk2
    rw [if_pos rfl,zi,hH _ (by omega)];rfl
   ·rw [if_neg hk2,ze hk2,zB,if_neg hk,qg,zB,if_neg hk]
theorem zk.z6v (fr:List (Nat × AV)) (m N t0 e0 e:Nat) (T:Hp) : ∀ (R:List (List (List PV))) (b:Nat) (pre:List PV),t0<b →
  (∀ k y,b≤k→k<b+R.length→(fr.map fun p=>(p.1,AV.sub k y p.2))=fr∧(T.map fun p=>(p.1,AO.sub k y p.2))=T∧(T.filter fun p=>p.1 != k)=T) →
  zk ⟨fr,(t0,.arow e0 (pre.map .p++owns b R.length)) :: (mat e 1 b R++T),m,N⟩ ⟨fr,(t0,.arow e0 ((pre++R.map (PV.seq 1)).map .p)) :: T,m,N⟩
 | [],b,pre,hb,_=>by simp only [owns,mat,List.length_nil,List.append_nil,List.map_nil,List.nil_append];exact zk.refl _
 | r :: R,b,pre,hb,hT=>by
  refine (zk.frz _ b).trans ?_
  have hlk:List.lookup b ((t0,AO.arow e0 (pre.map .p++owns b (r :: R).length)) :: (mat e 1 b (r :: R)++T))=some (.row e 1 r):=by
   rw [ze (by omega),mat,List.cons_append,zi]
  have heq:ASt.frz ⟨fr,(t0,.arow e0 (pre.map .p++owns b (r :: R).length)) :: (mat e 1 b (r :: R)++T),m,N⟩ b=⟨fr,(t0,.arow e0 ((pre ++ [PV.seq 1 r]).map .p++owns (b+1) R.length)) :: (mat e 1 (b+1) R++T),m,N⟩:=by
   unfold ASt.frz
   simp only [hlk,ASt.subst]
   obtain ⟨h1,h2,h3⟩:=hT b (.p (.seq 1 r)) (Nat.le_refl _) (by simp)
   rw [h1]
   congr 1
   have hne:(t0 != b)=true:=by simp;omega
   rw [List.map_cons,List.filter_cons,if_pos (by simpa using hne),List.map_append,List.filter_append,h2,h3,z6n,mat,List.filter_cons,if_neg (by simp),mat_ne _ _ _ _ _ (.inl (by omega)),AO.z3W]
   congr 3
   rw [List.length_cons,owns,List.map_append,List.map_cons,z4D _ _ _ _ (.inl (by omega)),List.map_append,List.append_assoc]
   congr 1
   ·rw [List.map_map];exact List.map_congr_left fun x _=>(by simp [AV.sub])
   ·simp [AV.sub]
  rw [heq]
  refine (zk.z6v fr m N t0 e0 e T R (b+1) (pre ++ [PV.seq 1 r]) (by omega) fun k y h1 h2=>hT k y (by omega) (by simp at h2 ⊢;omega)).trans (by rw [List.append_assoc];exact zk.refl _)
end Go.Proofs.YtdlgoofjechocaaGreatDoor
namespace Go.Proofs.YtdlgoofjechocaaGreatDoor
open Go.RowKit Go.Sort
def rowZ (ev:List Int):List (List PV):=ev.map fun x => [PV.val (.int .i64 x)]
theorem z1C (ev:List Int):(rowZ ev).length=ev.length:=by simp [rowZ]
theorem qR {ev:List Int} {k:Nat} {x:Int} (h:ev[k]? = some x):(rowZ ev)[k]? = some [PV.val (.int .i64 x)]:=by
 unfold rowZ;rw [List.getElem?_map,h];rfl
def rsnA (o:Bool) (ev:List Int):AV := .agg [.p (.val (.bool o)),.p (.seq 1 (rowZ ev))]
def ixZ (x:Int):List Int→Nat→Int
 | [],_ => -1
 | y :: r,k=>if x==y then (k:Int) else ixZ x r (k+1)
theorem ixZ_mem (x:Int) : ∀ (r:List Int) (k:Nat),decide (0≤ixZ x r k)=r.contains x
 | [],k=>by simp [ixZ]
 | y :: r,k=>by
  rw [ixZ]
  by_cases h:x=y
  ·subst h;simp
  ·have h1:(x==y)=false:=by simpa using h
   rw [h1,if_neg (by simp),ixZ_mem x r (k+1),List.contains_cons,h1];rfl
theorem index_ok (ev:List Int) (x:Int) (hl:ev.length≤1000000):zx Tryz.prog 36 [.p (.seq 1 (rowZ ev)),.int x] (.int (ixZ x ev 0)):=by
 have hel:=z1C ev
 refine zx.of Tryz.func36 rfl 19 rfl (by decide) (by simp [AV.okB]) ?_
 repeat' (first|refine T.zh fun K hK=>?_|apply T.block|(refine T.reg (by kernel_rfl) fun K' hK'=>?_;simp only [bz];(with_reducible repeat' (first|(apply WL.fin;apply hK';clear hK' K')|(refine WL.step fun K2 hK2=>?_;simp only [simprocAttr,az,hel];repeat' (first|(apply hK2;clear hK2 K2)|apply And.intro|intro hb)))))|apply T.skip|apply T.exit|refine T.zg rfl ?_|refine T.zf rfl ?_|refine T.cond rfl (fun hc=>?_) (fun hc=>?_)|apply T.ret|simp only [zb,za,reduceIte,Nat.reduceEqDiff]|((repeat ((fail_if_success apply hK);clear hK K));apply hK;clear hK K))
 refine T.qC (fun k:Nat=>⟨[(0,.p (.seq 1 (rowZ ev))),(1,.int x),(6,.p (.seq 1 (rowZ ev))),(7,.int ev.length),(8,.int k)],[],19,0⟩) (fun k=>k≤ev.length∧ixZ x ev 0=ixZ x (ev.drop k) k) (fun k=>ev.length-k) 0 ⟨Nat.zero_le _,rfl⟩ (by refine zk.of' rfl ?_;simp only [wks,reduceIte,Nat.reduceEqDiff,ASt.okB,AV.okB,Nat.reduceLT,implies_true,Int.natCast_zero]) ?_
 rintro k ⟨hk,hix⟩ KL hKL
 by_cases hkn:k<ev.length
 ·have hd:decide ((k:Int)<(ev.length:Int))=true:=by simpa using hkn
  have hk0:(0:Int)≤(k:Int):=by omega
  obtain ⟨y,hy⟩:=zQ hkn
  have m1:=qR hy
  rw [drop_at hy,ixZ] at hix
  cases hc:(x==y) with
  | true =>
   rw [hc,if_pos rfl] at hix
   rw [hix]
   repeat' (first|refine T.zh fun K hK=>?_|apply T.block|(refine T.reg (by kernel_rfl) fun K' hK'=>?_;simp only [bz];(with_reducible repeat' (first|(apply WL.fin;apply hK';clear hK' K')|(refine WL.step fun K2 hK2=>?_;simp only [simprocAttr,az,hd,hk0,Int.toNat_natCast,m1,hc];repeat' (first|(apply hK2;clear hK2 K2)|apply And.intro|intro hb)))))|apply T.skip|apply T.exit|refine T.zg rfl ?_|refine T.zf rfl ?_|refine T.cond rfl (fun hc=>?_) (fun hc=>?_)|apply T.ret|simp only [zb,za,reduceIte,Nat.reduceEqDiff]|((repeat ((fail_if_success apply hK);clear hK K));apply hK;clear hK K))
   all_goals (refine zH.ret (.inr rfl) Tryz.results36 ?_;simp only [zw,zt,zq,simprocAttr,az,])
  | false =>
   rw [hc,if_neg (by simp)] at hix
   repeat' (first|refine T.zh fun K hK=>?_|apply T.block|(refine T.reg (by kernel_rfl) fun K' hK'=>?_;simp only [bz];(with_reducible repeat' (first|(apply WL.fin;apply hK';clear hK' K')|(refine WL.step fun K2 hK2=>?_;simp only [simprocAttr,az,hd,hk0,Int.toNat_natCast,m1,hc];repeat' (first|(apply hK2;clear hK2 K2)|apply And.intro|intro hb)))))|apply T.skip|apply T.exit|refine T.zg rfl ?_|refine T.zf rfl ?_|refine T.cond rfl (fun hc=>?_) (fun hc=>?_)|apply T.ret|simp only [zb,za,reduceIte,Nat.reduceEqDiff]|((repeat ((fail_if_success apply hK);clear hK K));apply hK;clear hK K))
   refine hKL _ (k+1) ?_ ⟨hkn,hix⟩ (by omega)
   refine zk.of' rfl ?_;simp only [wks,reduceIte,Nat.reduceEqDiff,ASt.okB,AV.okB,Nat.reduceLT,implies_true,zu (show k<1152921504606846976 by omega)]
 ·have hd:decide ((k:Int)<(ev.length:Int))=false:=by simpa using hkn
  rw [List.drop_eq_nil_of_le (by omega),ixZ] at hix
  repeat' (first|refine T.zh fun K hK=>?_|apply T.block|(refine T.reg (by kernel_rfl) fun K' hK'=>?_;simp only [bz];(with_reducible repeat' (first|(apply WL.fin;apply hK';clear hK' K')|(refine WL.step fun K2 hK2=>?_;simp only [simprocAttr,az,hd];repeat' (first|(apply hK2;clear hK2 K2)|apply And.intro|intro hb)))))|apply T.skip|apply T.exit|refine T.zg rfl ?_|refine T.zf rfl ?_|refine T.cond rfl (fun hc=>?_) (fun hc=>?_)|apply T.ret|simp only [zb,za,reduceIte,Nat.reduceEqDiff]|((repeat ((fail_if_success apply hK);clear hK K));apply hK;clear hK K))
  all_goals (refine zH.ret (.inr rfl) Tryz.results36 ?_;simp only [zw,zt,zq,simprocAttr,az,hix])
theorem z8x (ev:List Int) (x:Int) (hl:ev.length≤1000000):zx Tryz.prog 22 [.p (.seq 1 (rowZ ev)),.int x] (.bool (ev.contains x)):=by
 have hi:=index_ok ev x hl
 rw [← ixZ_mem x ev 0]
 refine zx.of Tryz.func22 rfl 9 rfl (by decide) (by simp [AV.okB]) ?_
 repeat' (first|refine T.zh fun K hK=>?_|apply T.block|(refine T.reg (by kernel_rfl) fun K' hK'=>?_;simp only [bz];(repeat' (first|(with_reducible refine WL.fin ?_;apply hK';clear hK' K')|((with_reducible refine WL.step fun K2 hK2=>?_);simp only [simprocAttr,az];(repeat' (first|with_reducible (first|(apply hK2;clear hK2 K2)|apply And.intro|intro hb)|((with_reducible first|apply zl|apply zm);case h=>exact CallV.plain (Ent.of Tryz.func36 (by kernel_rfl) rfl) (hi) (by simp [AV.okB]))))))))|apply T.skip|apply T.exit|refine T.zg rfl ?_|refine T.zf rfl ?_|refine T.cond rfl (fun hc=>?_) (fun hc=>?_)|apply T.ret|simp only [zb,za,reduceIte,Nat.reduceEqDiff]|((repeat ((fail_if_success apply hK);clear hK K));apply hK;clear hK K))
 all_goals (refine zH.ret (.inr rfl) Tryz.results22 ?_;simp only [zw,zt,zq,simprocAttr,az,])
theorem has_ok (ev:List Int) (x:Int) (hl:ev.length≤1000000):zx Tryz.prog 30 [.p (.seq 1 (rowZ ev)),.int x] (.bool (ev.contains x)):=by
 have hel:=z1C ev
 refine zx.of Tryz.func30 rfl 18 rfl (by decide) (by simp [AV.okB]) ?_
 repeat' (first|refine T.zh fun K hK=>?_|apply T.block|(refine T.reg (by kernel_rfl) fun K' hK'=>?_;simp only [bz];(with_reducible repeat' (first|(apply WL.fin;apply hK';clear hK' K')|(refine WL.step fun K2 hK2=>?_;simp only [simprocAttr,az,hel];repeat' (first|(apply hK2;clear hK2 K2)|apply And.intro|intro hb)))))|apply T.skip|apply T.exit|refine T.zg rfl ?_|refine T.zf rfl ?_|refine T.cond rfl (fun hc=>?_) (fun hc=>?_)|apply T.ret|simp only [zb,za,reduceIte,Nat.reduceEqDiff]|((repeat ((fail_if_success apply hK);clear hK K));apply hK;clear hK K))
 refine T.qC (fun k:Nat=>⟨[(0,.p (.seq 1 (rowZ ev))),(1,.int x),(5,.int k)],[],18,0⟩) (fun k=>k≤ev.length∧ev.contains x=(ev.drop k).contains x) (fun k=>ev.length-k) 0 ⟨Nat.zero_le _,rfl⟩ (by refine zk.of' rfl ?_;simp only [wks,reduceIte,Nat.reduceEqDiff,ASt.okB,AV.okB,Nat.reduceLT,implies_true,Int.natCast_zero]) ?_
 rintro k ⟨hk,hix⟩ KL hKL
 by_cases hkn:k<ev.length
 ·have hd:decide ((k:Int)<(ev.length:Int))=true:=by simpa using hkn
  have hk0:(0:Int)≤(k:Int):=by omega
  obtain ⟨y,hy⟩:=zQ hkn
  have m1:=qR hy
  have hsym:(x==y)=(y==x):=by rw [Bool.eq_iff_iff,beq_iff_eq,beq_iff_eq];exact ⟨Eq.symm,Eq.symm⟩
  rw [drop_at hy,List.contains_cons,hsym] at hix
  cases hc:(y==x) with
  | true =>
   rw [hc,Bool.true_or] at hix
   rw [hix]
   repeat' (first|refine T.zh fun K hK=>?_|apply T.block|(refine T.reg (by kernel_rfl) fun K' hK'=>?_;simp only [bz];(with_reducible repeat' (first|(apply WL.fin;apply hK';clear hK' K')|(refine WL.step fun K2 hK2=>?_;simp only [simprocAttr,az,hd,hel,hk0,Int.toNat_natCast,m1,hc];repeat' (first|(apply hK2;clear hK2 K2)|apply And.intro|intro hb)))))|apply T.skip|apply T.exit|refine T.zg rfl ?_|refine T.zf rfl ?_|refine T.cond rfl (fun hc=>?_) (fun hc=>?_)|apply T.ret|simp only [zb,za,reduceIte,Nat.reduceEqDiff]|((repeat ((fail_if_success apply hK);clear hK K));apply hK;clear hK K))
   all_goals (refine zH.ret (.inr rfl) Tryz.results30 ?_;simp only [zw,zt,zq,simprocAttr,az,])
  | false =>
   rw [hc,Bool.false_or] at hix
   repeat' (first|refine T.zh fun K hK=>?_|apply T.block|(refine T.reg (by kernel_rfl) fun K' hK'=>?_;simp only [bz];(with_reducible repeat' (first|(apply WL.fin;apply hK';clear hK' K')|(refine WL.step fun K2 hK2=>?_;simp only [simprocAttr,az,hd,hel,hk0,Int.toNat_natCast,m1,hc];repeat' (first|(apply hK2;clear hK2 K2)|apply And.intro|intro hb)))))|apply T.skip|apply T.exit|refine T.zg rfl ?_|refine T.zf rfl ?_|refine T.cond rfl (fun hc=>?_) (fun hc=>?_)|apply T.ret|simp only [zb,za,reduceIte,Nat.reduceEqDiff]|((repeat ((fail_if_success apply hK);clear hK K));apply hK;clear hK K))
   refine hKL _ (k+1) ?_ ⟨hkn,hix⟩ (by omega)
   refine zk.of' rfl ?_;simp only [wks,reduceIte,Nat.reduceEqDiff,ASt.okB,AV.okB,Nat.reduceLT,implies_true,zu (show k<1152921504606846976 by omega)]
 ·have hd:decide ((k:Int)<(ev.length:Int))=false:=by simpa using hkn
  rw [List.drop_eq_nil_of_le (by omega),List.contains_nil] at hix
  repeat' (first|refine T.zh fun K hK=>?_|apply T.block|(refine T.reg (by kernel_rfl) fun K' hK'=>?_;simp only [bz];(with_reducible repeat' (first|(apply WL.fin;apply hK';clear hK' K')|(refine WL.step fun K2 hK2=>?_;simp only [simprocAttr,az,hd,hel];repeat' (first|(apply hK2;clear hK2 K2)|apply And.intro|intro hb)))))|apply T.skip|apply T.exit|refine T.zg rfl ?_|refine T.zf rfl ?_|refine T.cond rfl (fun hc=>?_) (fun hc=>?_)|apply T.ret|simp only [zb,za,reduceIte,Nat.reduceEqDiff]|((repeat ((fail_if_success apply hK);clear hK K));apply hK;clear hK K))
  all_goals (refine zH.ret (.inr rfl) Tryz.results30 ?_;simp only [zw,zt,zq,simprocAttr,az,hix])
def plcB (l:List Ev) (i j:Int):Bool:=(qo l).2 && !(decide (i<0)) && !(decide (j≤i)) && !(decide ((l.length:Int)≤j))
theorem place_ok (l:List Ev) (i j:Int) (hl:l.length≤100000):zx Tryz.prog 28 [.p (.seq 9 (l.map evC)),.int i,.int j] (.bool (plcB l i j)):=by
 have hv:=validT_ok l (by omega)
 have hlm:(l.map evC).length=l.length:=by simp
 unfold plcB
 generalize (qo l).2=b at hv
 cases d1:decide (i<0) <;> cases d2:decide (j≤i) <;> cases d3:decide ((l.length:Int)≤j)
 all_goals (have e1:decide ((0:Int)≤i) = !decide (i<0):=(by rw [Bool.eq_iff_iff];simp);have e2:decide (i<j) = !decide (j≤i):=(by rw [Bool.eq_iff_iff];simp);have e3:decide (j<(l.length:Int)) = !decide ((l.length:Int)≤j):=(by rw [Bool.eq_iff_iff];simp);rw [d1] at e1;rw [d2] at e2;rw [d3] at e3;simp only [Bool.not_true,Bool.not_false,Bool.and_true,Bool.and_false] at e1 e2 e3 ⊢)
 all_goals (refine zx.of Tryz.func28 rfl 24 rfl (by decide) (by simp [AV.okB]) ?_)
 all_goals (repeat' (first|refine T.zh fun K hK=>?_|apply T.block|(refine T.reg (by kernel_rfl) fun K' hK'=>?_;simp only [bz];(repeat' (first|(with_reducible refine WL.fin ?_;apply hK';clear hK' K')|((with_reducible refine WL.step fun K2 hK2=>?_);simp only [simprocAttr,az,hlm,e1,e2,e3];(repeat' (first|with_reducible (first|(apply hK2;clear hK2 K2)|apply And.intro|intro hb)|((with_reducible first|apply zl|apply zm);case h=>exact CallV.plain (Ent.of Tryz.func42 (by kernel_rfl) rfl) (hv) (by simp [AV.okB]))))))))|apply T.skip|apply T.exit|refine T.zg rfl ?_|refine T.zf rfl ?_|refine T.cond rfl (fun hc=>?_) (fun hc=>?_)|apply T.ret|simp only [zb,za,reduceIte,Nat.reduceEqDiff]|((repeat ((fail_if_success apply hK);clear hK K));apply hK;clear hK K)))
 all_goals (refine zH.ret (.inr rfl) Tryz.results28 ?_;simp only [zw,zt,zq,simprocAttr,az,])
def bfE (E:List Ed) (t:Nat):List Nat:=(E.filter fun e=>e.t==(t:Int)).map fun e=>e.f.toNat
def afE (E:List Ed) (f:Nat):List Nat:=(E.filter fun e=>e.f==(f:Int)).map fun e=>e.t.toNat
theorem z7U (A B:List Ed) (t:Nat):bfE (A++B) t=bfE A t++bfE B t:=by simp [bfE]
theorem z8C (A B:List Ed) (t:Nat):afE (A++B) t=afE A t++afE B t:=by simp [afE]
theorem z4Z (f t:Nat) (k:Int) (q:Nat):bfE [⟨f,t,k⟩] q=if q=t then [f] else []:=by
 unfold bfE
 rw [List.filter_cons,List.filter_nil]
 by_cases h:q=t
 ·subst h;simp
 ·rw [if_neg (by simp;omega),if_neg h];rfl
theorem z5y (f t:Nat) (k:Int) (q:Nat):afE [⟨f,t,k⟩] q=if q=f then [t] else []:=by
 unfold afE
 rw [List.filter_cons,List.filter_nil]
 by_cases h:q=f
 ·subst h;simp
 ·rw [if_neg (by simp;omega),if_neg h];rfl
theorem bfE_J (l:List Ev) (m:Nat) : ∀ (k t:Nat),bfE (edJ l m k) t=if t=m then rgF (fun f=>immL l f m) k else []
 | 0,t=>by simp [edJ,bfE,rgF]
 | k+1,t=>by
  rw [edJ,z1c,z7U,bfE_J l m k t]
  by_cases h:t=m
  ·subst h
   rw [if_pos rfl,if_pos rfl]
   cases hi:immL l k t with
   | true=>simp [z4Z]
   | false=>simp [bfE]
  ·rw [if_neg h,if_neg h]
   cases hi:immL l k m with
   | true=>simp [z4Z,h]
   | false=>simp [bfE]
theorem afE_J (l:List Ev) (m:Nat) : ∀ (k f:Nat),afE (edJ l m k) f=if f<k∧immL l f m=true then [m] else []
 | 0,f=>by simp [edJ,afE]
 | k+1,f=>by
  rw [edJ,z8C,afE_J l m k f]
  by_cases h:f=k
  ·subst h
   rw [if_neg (by omega)]
   cases hi:immL l f m with
   | true=>simp [z5y]
   | false=>simp [afE]
  ·have h1:afE (if immL l k m=true then [(⟨(k:Int),(m:Int),kdL l k m⟩ : Ed)] else []) f = []:=by
    cases hi:immL l k m with
    | true=>simp [z5y,h]
    | false=>simp [afE]
   rw [h1,List.append_nil]
   by_cases h2:f<k
   ·have:f<k+1:=by omega
    simp [h2,this]
   ·have : ¬ f<k+1:=by omega
    simp [h2,this]
theorem bfE_U (l:List Ev) : ∀ (n t:Nat),bfE (edU l n) t=if t<n then rgF (fun f=>immL l f t) t else []
 | 0,t=>by simp [edU,bfE]
 | n+1,t=>by
  rw [edU,z7U,bfE_U l n t,bfE_J]
  by_cases h:t=n
  ·subst h;simp
  ·by_cases h2:t<n
   ·have:t<n+1:=by omega
    simp [h,h2,this]
   ·have : ¬ t<n+1:=by omega
    simp [h,h2,this]
theorem afE_U (l:List Ev) (f:Nat) : ∀ n,afE (edU l n) f=rgF (fun t=>decide (f<t)&&immL l f t) n
 | 0=>rfl
 | n+1=>by
  rw [edU,z8C,afE_U l f n,afE_J,z1c]
  by_cases h:f<n
  ·cases hi:immL l f n <;> simp [h,hi]
  ·simp [h]
def matI (n:Nat) (F:Nat→List Nat):List (List (List PV)):=(List.range n).map fun t=>rowI (F t)
theorem z0r (n:Nat) (F:Nat→List Nat):(matI n F).length=n:=by simp [matI]
theorem z2E {n t:Nat} (F:Nat→List Nat) (h:t<n):(matI n F)[t]? = some (rowI (F t)):=by
 unfold matI;rw [List.getElem?_map,List.getElem?_range h];rfl
def upL (F:Nat→List Nat) (t:Nat) (r:List Nat):Nat→List Nat:=fun q=>if q=t then r else F q
theorem matI_nil (n:Nat):matI n (fun _ => [])=List.replicate n []:=by
 simp [matI,rowI,List.map_const']
theorem z5Q {n:Nat} {F G:Nat→List Nat} (h : ∀ t,t<n→F t=G t):matI n F=matI n G:=by
 unfold matI
 exact List.map_congr_left fun t ht=>by rw [h t (List.mem_range.1 ht)]
theorem bfE_step {E:List Ed} {k f t:Nat} {e:Ed} (he:E[k]? = some e) (h1:e.f=f) (h2:e.t=t):bfE (E.take (k+1))=upL (bfE (E.take k)) t (bfE (E.take k) t ++ [f]):=by
 funext q
 rw [List.take_add_one,he,z7U]
 obtain ⟨ef,et,ek⟩:=e
 cases h1;cases h2
 simp only [Option.toList_some,z4Z,upL]
 by_cases h:q=t
 ·subst h;simp [z4Z]
 ·simp [z4Z,h]
theorem afE_step {E:List Ed} {k f t:Nat} {e:Ed} (he:E[k]? = some e) (h1:e.f=f) (h2:e.t=t):afE (E.take (k+1))=upL (afE (E.take k)) f (afE (E.take k) f ++ [t]):=by
 funext q
 rw [List.take_add_one,he,z8C]
 obtain ⟨ef,et,ek⟩:=e
 cases h1;cases h2
 simp only [Option.toList_some,z5y,upL]
 by_cases h:q=f
 ·subst h;simp [z5y]
 ·simp [z5y,h]
def befL (l:List Ev) (t:Nat):List Nat:=rgF (fun f=>immL l f t) t
def aftL (l:List Ev) (f:Nat):List Nat:=rgF (fun t=>decide (f<t)&&immL l f t) l.length
theorem befM_eq (l:List Ev):matI l.length (bfE (edU l l.length))=matI l.length (befL l):=z5Q fun t ht=>by rw [bfE_U,if_pos ht];rfl
theorem aftM_eq (l:List Ev):matI l.length (afE (edU l l.length))=matI l.length (aftL l):=z5Q fun t ht=>by rw [afE_U];rfl
theorem z2K {l:List Ev} {i j:Int} : plcB l i j=true↔PlcP l i j:=by
 simp only [plcB,PlcP,Bool.and_eq_true,Bool.not_eq_true',decide_eq_false_iff_not]
 constructor
 ·rintro ⟨⟨⟨h1,h2⟩,h3⟩,h4⟩;exact ⟨h1,by omega,by omega,by omega⟩
 ·rintro ⟨h1,h2,h3,h4⟩;exact ⟨⟨⟨h1,by omega⟩,by omega⟩,by omega⟩
noncomputable def expO (l:List Ev) (i j:Int):Bool:=plcB l i j&&decide (0<zU l j.toNat i.toNat)
noncomputable def expE (l:List Ev) (i j:Int):List Nat:=if plcB l i j then (if 0<zU l j.toNat i.toNat then chC l i.toNat j.toNat else z4j l j) else []
def expX (l:List Ev) (i j:Int):Int:=if plcB l i j then 0 else 1
theorem exp_fits {l:List Ev} {i j:Int} (h:plcB l i j=true):ChkP l i j (expO l i j) (zs (expE l i j)):=by
 have hp:=z2K.1 h
 have hi:((i.toNat:Nat):Int)=i:=by have:=hp.2.1;omega
 have hj:((j.toNat:Nat):Int)=j:=by have:=hp.2.1;have:=hp.2.2.1;omega
 unfold expO expE
 rw [h]
 by_cases hv : 0<zU l j.toNat i.toNat
 ·simp only [hv,decide_true,Bool.and_self,if_true]
  have:=z9G (l:=l) (i:=i.toNat) (j:=j.toNat) (by rw [hi,hj];exact hp) hv
  rw [hi,hj] at this
  exact this
 ·simp only [hv,decide_false,Bool.and_false,if_true,if_false]
  have:=cone_fits (l:=l) (i:=i.toNat) (j:=j.toNat) (by rw [hi,hj];exact hp) (by omega)
  rw [hi,hj] at this
  exact this
section
variable {P:Program} {ops:Array Oper} {o:Oper} {s:ASt}
theorem z9V (t:TypeId) (len:Nat) (parts:Array (Nat × Operand)) (e0 n0 bytes:Nat) (rows:List (List PV)) (h:o.op = .buildSlice t len parts) (hl:z3r P s t len parts.toList=some (.p (.seq n0 rows))) (ht:zW P t=some (e0,n0,bytes)) (hd : ∀ t,o.dst=some t→t<s.n):z1t P o s ((s.add (.row e0 n0 rows)).put o.dst (.own s.N)):=fun L loc a w hr=>by
 obtain ⟨i0,z0,hu0,hi0,_⟩:=(z0A ht).h
 have hev : ∀ (j i:Nat) (x:AV) (i' : Nat) (v:Value),(parts.toList.map fun p=>(p.1,s.ev p.2))[j]? = some (i,x)→(parts.map fun (i,x)=>(i,a.eval x)).toList[j]? = some (i',v)→i=i' ∧ AR s.N (Dm L loc) loc w x v:=fun j i x i' v h1 h2=>by
  simp only [Array.toList_map,List.getElem?_map,Option.map_eq_some_iff] at h1 h2
  obtain ⟨p,hp,e1⟩:=h1
  obtain ⟨p',hp',e2⟩:=h2
  rw [hp] at hp'
  cases hp'
  cases e1
  cases e2
  exact ⟨rfl,hr.ev p.2 (fun _ _=>trivial)⟩
 have hlen:(parts.map fun (i,x)=>(i,a.eval x)).toList.length=(parts.toList.map fun p=>(p.1,s.ev p.2)).length:=by simp
 unfold z3r at hl
 split at hl
 ·rename_i e hu
  split at hl
  ·rename_i zs n hz hs
   split at hl
   ·rename_i hcond
    obtain ⟨hzl,hn0,hmax,hml⟩:=hcond
    split at hl
    ·rename_i cs hf
     obtain ⟨xs,hxs,hE⟩:=Option.map_eq_some_iff.1 hl
     rw [hu0] at hu
     cases hu
     cases hE
     obtain ⟨i,z,hi,hiz,hzc,hone⟩:=z0P hz
     have hzsz:z.cells.size=n0:=by rw [← hzl,← hzc];simp
     have hz0:Cs s.N (Dm L loc) loc w ((List.range (len*n0)).map fun j => .p (.val (zs.getD (j % n0) undef))) ((Array.range (len*n0)).map fun j=>z.cells[j % z.cells.size]!):=by
      have e1 : ∀ j,z.cells[j % z.cells.size]! = zs.getD (j % n0) undef:=fun j=>by
       have:j % n0<z.cells.size:=by rw [hzsz];exact Nat.mod_lt _ hn0
       rw [hzsz,getElem!_pos z.cells _ this,← hzc,List.getD_eq_getElem?_getD,Array.getElem?_toList,Array.getElem?_eq_getElem this]
       rfl
      have e2:(Array.range (len*n0)).map (fun j=>z.cells[j % z.cells.size]!)=((List.range (len*n0)).map fun j=>zs.getD (j % n0) undef).toArray:=by
       apply Array.ext'
       simp [e1]
      rw [e2]
      have:=Cs.zero s.N (Dm L loc) loc w (vs:=((List.range (len*n0)).map fun j=>zs.getD (j % n0) undef).toArray) (fun v hv=>by
       obtain ⟨j,_,rfl⟩:=List.mem_map.1 (show v ∈ (List.range (len*n0)).map (fun j=>zs.getD (j % n0) undef) from hv)
       have:j % n0<zs.length:=by rw [hzl];exact Nat.mod_lt _ hn0
       rw [List.getD_eq_getElem?_getD,List.getElem?_eq_getElem this]
       exact hone _ (List.getElem_mem this))
      simpa [List.map_map,Function.comp_def] using this
     obtain ⟨us',h1,h2⟩:=z4X hlen hev hz0 hf
     obtain ⟨i',hi',his⟩:=Option.map_eq_some_iff.1 hs
     rw [hi] at hi'
     cases hi'
     have hrun:(Instr.buildSlice t len (parts.map fun (i,x)=>(i,a.eval x))).run P w = .ok (.slice (some ⟨w.heap.size,0,none⟩) len len) (w.alloc (.cells us' e0)):=by
      have hm : ¬ (len*n0 > 2 ^ 24):=by omega
      have hnr : ∀ c:Array Value,(newRow e0 c).run P w = .ok ⟨w.heap.size,0,none⟩ (w.alloc (.cells c e0)):=fun c=>by simp [newRow]
      unfold Instr.buildSlice
      by_cases h0:len*n0=0
      ·have e3:(Array.range (len*n0)).map (fun j=>z.cells[j % z.cells.size]!)=(Array.range (len*n0)).map (fun j=>(#[] : Array Value)[j % (#[] : Array Value).size]!):=by rw [h0];apply Array.ext';simp
       rw [e3] at h1
       simp only [Sem.run_bind,run_underlying hu0,Result.andThen_ok,sizeOf,typeInfo,run_program,hi,his,Sem.run_pure,if_neg hm,if_pos h0,h1,hnr]
      ·simp only [Sem.run_bind,run_underlying hu0,Result.andThen_ok,sizeOf,typeInfo,run_program,hi,his,Sem.run_pure,if_neg hm,if_neg h0,zeroValue,hiz,h1,hnr]
     have hbl:Blw w.heap.size w (w.alloc (.cells us' e0)):=(Blw.refl _ _).alloc (Nat.le_refl _) _
     have hcs:=z2S hxs
     have hcl:cs.length=len*n0:=by
      have : ∀ (ps:List (Nat × AV)) (c c' : List AV),z4x (fun i=>some (i*n0,n0)) c ps=some c' → c'.length=c.length:=by
       intro ps
       induction ps with
       | nil=>intro c c' h;cases h;rfl
       | cons p r ih =>
        intro c c' h
        obtain ⟨k,x⟩:=p
        simp only [z4x] at h
        split at h
        ·split at h
         ·rename_i hc
          rw [ih _ _ h,qQ hc.2]
         ·cases h
        ·cases h
      rw [this _ _ _ hf];simp
     have hxl:xs.length=len*n0:=by rw [← hcl,hcs];simp
     have hub : ∀ b,zP (.slice (some ⟨w.heap.size,0,none⟩) len len)=some b→w.heap.size≤b:=fun b e=>by cases e;exact Nat.le_refl _
     have hus:us'.toList.length=len*n0:=by rw [Array.length_toList,h2.1,hcl]
     have ho:OR (s.N+1) (Dm L (zO loc s.N (.slice (some ⟨w.heap.size,0,none⟩) len len))) (zO loc s.N (.slice (some ⟨w.heap.size,0,none⟩) len len)) (w.alloc (.cells us' e0)) (.slice (some ⟨w.heap.size,0,none⟩) len len) (.row e0 n0 (chunks n0 len xs)):=by
      refine ⟨us'.toList,⟨by rw [hus,qM],.inr ⟨w.heap.size,len,_,by rw [qM],Nat.zero_le _,qD w _ _ rfl,by rw [qM];exact Nat.le_refl _,hml,by rw [← Array.length_toList,hus],?_⟩⟩,fun r hr'=>?_,fun k r j x hk hx=>?_,fun v hv=>?_⟩
      ·rw [List.take_of_length_le (by rw [hus,qM];exact Nat.le_refl _)]
      ·obtain ⟨k,hk,rfl⟩:=List.mem_iff_getElem.1 hr'
       rw [qM] at hk
       have e1:=z1R n0 len xs k _ (List.getElem?_eq_getElem (by rw [qM];exact hk))
       rw [e1,List.length_take,List.length_drop,hxl]
       have:(k+1)*n0≤len*n0:=Nat.mul_le_mul_right n0 hk
       rw [Nat.add_mul] at this
       omega
      ·have e1:=z1R n0 len xs k _ hk
       rw [e1,List.getElem?_take] at hx
       split at hx
       ·rw [List.getElem?_drop] at hx
        have hx' : cs[k*n0+j]? = some (.p x):=by rw [hcs,List.getElem?_map,hx];rfl
        have h5:=h2.2.1 _ _ hx'
        have hlt:=(List.getElem?_eq_some_iff.1 hx').1
        rw [← h2.1] at hlt
        rw [Array.getD_eq_getD_getElem?,Array.getElem?_eq_getElem hlt] at h5
        refine ⟨us'[k*n0+j],by rw [Array.getElem?_toList,Array.getElem?_eq_getElem hlt],?_⟩
        cases h5 with
        | p _ _ hp=>exact hp.mono (.of_below hbl) (fun k hk hd=>(z1S hd).resolve_left fun e=>by have:=hub k e;omega)
       ·cases hx
      ·obtain ⟨j,hj,rfl⟩:=List.mem_iff_getElem.1 hv
       simp only [Array.length_toList] at hj
       have:=h2.2.2 j hj
       rw [Array.getD_eq_getD_getElem?,Array.getElem?_eq_getElem hj] at this
       simpa using this
     unfold Oper.wp
     have he:(execOp a.eval o).run P w = .ok (.value (.slice (some ⟨w.heap.size,0,none⟩) len len)) (w.alloc (.cells us' e0)):=by
      simp only [execOp,h,Sem.run_bind,hrun,Result.andThen_ok,Sem.run_pure]
     rw [he]
     refine ⟨zO loc s.N (.slice (some ⟨w.heap.size,0,none⟩) len len),?_,.add hbl _ _ hub⟩
     refine (hr.add hbl _ (.row e0 n0 (chunks n0 len xs)) hub ho).put' hd (.own s.N _ (Nat.lt_succ_self _) rfl fun z hz=>?_)
     rw [zG] at hz;cases hz;rfl
    ·cases hl
   ·cases hl
  ·cases hl
 ·cases hl
end
theorem T.regO {F:Fence} [FOk F] {P:Program} {Q:Exit→ASt→Prop} {s:ASt} {id d1 d2:Nat} {o1 o2:Oper} {rest:List Oper} {av:AV} (t:TypeId) (len:Nat) (parts:Array (Nat × Operand)) (e0 n0 bytes:Nat) (rows:List (List PV)) (hd:z2r (o1 :: o2 :: rest)=true) (g1:o1.guard=none) (g2:o2.guard=none) (e1:o1.dst=some d1) (e2:o2.dst=some d2) (l1:d1<s.n) (l2:d2<s.n)
  (h1:aop P s o1.op=some av) (h:o2.op = .buildSlice t len parts) (hl:z3r P (s.put (some d1) av) t len parts.toList=some (.p (.seq n0 rows))) (ht:zW P t=some (e0,n0,bytes))
  (hk : ∀ K:ASt→Prop,(∀ s,Q .normal s→K s)→WL P ((o1 :: o2 :: rest).map (·.dst)) K rest (((s.put (some d1) av).add (.row e0 n0 rows)).put (some d2) (.own s.N))):T F P (.region id (o1 :: o2 :: rest).toArray false) Q s:=by
 refine T.region hd ?_
 refine TL.val (by simp [z3D,g1]) av (z3F h1) (fun t e=>by rw [e1] at e;cases e;exact l1) ?_
 rw [e1]
 refine TL.eff (by simp [z3D,g2]) (z9V t len parts e0 n0 bytes rows h hl ht (fun t e=>by rw [e2] at e;cases e;exact l2)) ?_
 rw [e2]
 refine WL.sound ?_
 have:=hk (NQ Q .normal) (fun s h=>⟨rfl,h⟩)
 have hN:(s.put (some d1) av).N=s.N:=rfl
 rw [hN]
 simpa using this
def NoGt (Q:Exit→ASt→Prop):Exit→ASt→Prop
 | .goto _,_=>False
 | e,s=>Q e s
theorem NoGt.ret {Q:Exit→ASt→Prop} {s:ASt} (h:Q .ret s):NoGt Q .ret s:=h
theorem T.scope {P:Program} {Q:Exit→ASt→Prop} {s:ASt} {c:Code} (h:T Fence.wide P c (NoGt Q) s):T Fence.wide P (.scope c) Q s:=fun L loc a w hr =>
 wpIn_wide.2 (wp_scope_straight (wpIn_wide.1 (wpIn_mono (h L loc a w hr) fun e a' w' ⟨s',loc',h1,h2⟩=>by
  cases e with
  | goto l=>exact h1.elim
  | _=>exact ⟨s',loc',h1,h2⟩)))
theorem T.label {F:Fence} {P:Program} {Q:Exit→ASt→Prop} {s:ASt} {l:Nat} (h:Q .normal s):T F P (.label l) Q s:=fun _ loc _ _ hr=>wpIn_label (.of h hr (Ext.refl _ _))
theorem AVle.ownSuf (t n:Nat):AVle (.own t) (.suf t n 0):=fun N D loc w v h=>by
 cases h with
 | own _ _ ht h1 hv=>exact .suf t n 0 v ht h1 fun b l c hb=>⟨0,hv _ hb,fun _=>(Nat.zero_mul n).symm⟩
def rowF (n:Nat) (f:Nat→Int):List (List PV):=(List.range n).map fun a => [PV.val (.int .i64 (f a))]
theorem z0f (n:Nat) (f:Nat→Int):(rowF n f).length=n:=by simp [rowF]
theorem z0w {n a:Nat} (f:Nat→Int) (h:a<n):(rowF n f)[a]? = some [PV.val (.int .i64 (f a))]:=by
 unfold rowF;rw [List.getElem?_map,List.getElem?_range h];rfl
def upI (f:Nat→Int) (a:Nat) (v:Int):Nat→Int:=fun q=>if q=a then v else f q
theorem z6m {n a:Nat} (f:Nat→Int) (v:Int) (h:a<n):(rowF n f).set a [PV.val (.int .i64 v)]=rowF n (upI f a v):=by
 apply List.ext_getElem?
 intro q
 rw [List.getElem?_set]
 by_cases hq:q<n
 ·rw [z0w _ hq,z0w _ hq]
  unfold upI
  by_cases e:a=q
  ·subst e;rw [if_pos rfl,if_pos (by rw [z0f];exact h),if_pos rfl]
  ·rw [if_neg e,if_neg (fun h=>e h.symm)]
 ·have e : ¬ a=q:=by omega
  rw [if_neg e,List.getElem?_eq_none (by rw [z0f];omega),List.getElem?_eq_none (by rw [z0f];omega)]
theorem rowF_rep (n:Nat):rowF n (fun _ => 0)=List.replicate n [PV.val (.int .i64 0)]:=by
 simp [rowF,List.map_const']
theorem z5P {n:Nat} {f g:Nat→Int} (h : ∀ a,a<n→f a=g a):rowF n f=rowF n g:=by
 unfold rowF
 exact List.map_congr_left fun a ha=>by rw [h a (List.mem_range.1 ha)]
def dsF (g:Nat→Nat):Nat→Int:=fun a=>(g a:Int)-1
theorem dsF_up (g:Nat→Nat) (p v:Nat):upI (dsF g) p (v:Int)=dsF (upG g p (v+1)):=by
 funext q
 simp only [upI,dsF,upG]
 by_cases h:q=p
 ·rw [if_pos h,if_pos h];omega
 ·rw [if_neg h,if_neg h]
def neg1 (k:Nat):Nat→Int:=fun a=>if a<k then -1 else 0
theorem neg1_zero:neg1 0=fun _ => 0:=by funext a;simp [neg1]
theorem neg1_succ (n k:Nat) (h:k<n):(rowF n (neg1 k)).set k [PV.val (.int .i64 (-1))]=rowF n (neg1 (k+1)):=by
 rw [z6m _ _ h]
 refine z5P fun a _=>?_
 simp only [upI,neg1]
 by_cases e:a=k
 ·rw [if_pos e,if_pos (by omega)]
 ·rw [if_neg e]
  by_cases e2:a<k
  ·rw [if_pos e2,if_pos (by omega)]
  ·rw [if_neg e2,if_neg (by omega)]
theorem neg1_end (n j:Nat) (h:j<n):(rowF n (neg1 n)).set j [PV.val (.int .i64 0)]=rowF n (dsF (upG (fun _ => 0) j 1)):=by
 rw [z6m _ _ h]
 refine z5P fun a ha=>?_
 simp only [upI,neg1,dsF,upG]
 by_cases e:a=j
 ·rw [if_pos e,if_pos e];rfl
 ·rw [if_neg e,if_neg e,if_pos ha];rfl
theorem rowI_drop (r:List Nat) (m:Nat):List.drop m (rowI r)=rowI (r.drop m):=by simp [rowI,List.map_drop]
theorem BfO.top {l:List Ev} {i j:Nat} {g:Nat→Nat} {q:List Nat} (h:BfO l i j g q) {a:Nat} (ha : 0<g a):a≤j∧g a≤j+1:=by
 have h1:=h.ex a ha
 obtain ⟨v,hv⟩ : ∃ v,g a=v+1:=⟨g a-1,by omega⟩
 rw [hv] at h1
 have h2:=z8V h1
 have h3:=z5n (l:=l) (j:=j) (d:=j-a) (k:=a) (Nat.le_refl _) h2
 rw [z2c h1] at h3
 omega
theorem BfI.top {l:List Ev} {i j k:Nat} {S:List Nat} {g:Nat→Nat} {q:List Nat} (h:BfI l i j k S g q) {a:Nat} (ha : 0<g a):a≤j∧g a≤j+1:=by
 have h1:=h.ex a ha
 obtain ⟨v,hv⟩ : ∃ v,g a=v+1:=⟨g a-1,by omega⟩
 rw [hv] at h1
 have h2:=z8V h1
 have h3:=z5n (l:=l) (j:=j) (d:=j-a) (k:=a) (Nat.le_refl _) h2
 rw [z2c h1] at h3
 omega
theorem z8P : ∀ n,uaG (fun _ => 0) n=n
 | 0=>rfl
 | n+1=>by rw [z3E,z8P n,if_pos rfl]
theorem z2h {l:List Ev} {k p:Nat} : p ∈ befL l k↔p<k∧immL l p k=true:=by simp [befL,rgF]
theorem z6x (l:List Ev) (k:Nat):(befL l k).length≤k:=z8b _ _
def befP (l:List Ev):List (List PV):=(matI l.length (befL l)).map fun r => [PV.seq 1 r]
theorem z9t (l:List Ev):(befP l).length=l.length:=by simp [befP,z0r]
theorem befP_at {l:List Ev} {k:Nat} (h:k<l.length):(befP l)[k]? = some [PV.seq 1 (rowI (befL l k))]:=by
 unfold befP;rw [List.getElem?_map,z2E _ h];rfl
theorem dist_ok (l:List Ev) (i j:Nat) (hl:l.length≤100000) (hij:i<j) (hj:j<l.length):MemC Tryz.prog 18 0 [] [.p (.seq 1 (befP l)),.int i,.int j]
  (fun hp' r=>hp' = [] ∧ ∃ g,BfR l i j g∧r = .p (.seq 1 (rowF l.length (dsF g)))):=by
 obtain ⟨n,hn⟩ : ∃ n,n=l.length:=⟨_,rfl⟩
 have hbl:=z9t l
 have hba:=fun k (h:k<l.length)=>befP_at (l:=l) h
 rw [← hn] at hbl
 have hml:n≤maxLen:=by unfold maxLen;omega
 have hm1 : 1≤maxLen:=by unfold maxLen;omega
 have hmb : 8*n≤140737488355328:=by omega
 have ht0:(0:Int).toNat=0:=rfl
 have ht1:(1:Int).toNat=1:=rfl
 have hj0:(0:Int)≤(j:Int):=by omega
 have hjn:j<n:=by omega
 have hend:=neg1_end n j hjn
 have hi0:(0:Int)≤(i:Int):=by omega
 generalize befP l=BP at hbl hba
 refine MemC.of Tryz.func18 rfl 69 rfl (by decide) ?_;simp only [qi,frOf]
 repeat' (first|refine T.zh fun K hK=>?_|apply T.block|(refine T.reg (by kernel_rfl) fun K' hK'=>?_;simp only [bz];(with_reducible repeat' (first|(apply WL.fin;apply hK';clear hK' K')|(refine WL.step fun K2 hK2=>?_;simp only [simprocAttr,az];repeat' (first|(apply hK2;clear hK2 K2)|apply And.intro|intro hb)))))|apply T.skip|apply T.exit|refine T.zg rfl ?_|refine T.zf rfl ?_|refine T.cond rfl (fun hc=>?_) (fun hc=>?_)|apply T.ret|simp only [zb,za,reduceIte,Nat.reduceEqDiff]|((repeat ((fail_if_success apply hK);clear hK K));apply hK;clear hK K))
 refine T.scope ?_
 repeat' (first|refine T.zh fun K hK=>?_|apply T.block|(refine T.reg (by kernel_rfl) fun K' hK'=>?_;simp only [bz];(with_reducible repeat' (first|(apply WL.fin;apply hK';clear hK' K')|(refine WL.step fun K2 hK2=>?_;simp only [simprocAttr,az,hbl,hml,hmb,Int.toNat_natCast,List.length_replicate];repeat' (first|(apply hK2;clear hK2 K2)|apply And.intro|intro hb)))))|apply T.skip|apply T.exit|refine T.zg rfl ?_|refine T.zf rfl ?_|refine T.cond rfl (fun hc=>?_) (fun hc=>?_)|apply T.ret|simp only [zb,za,reduceIte,Nat.reduceEqDiff]|((repeat ((fail_if_success apply hK);clear hK K));apply hK;clear hK K))
 refine T.qC (fun k:Nat=>⟨[(0,.p (.seq 1 BP)),(1,.int i),(2,.int j),(7,.own 0),(17,.int n),(18,.int k)],[(0,.row 3 1 (rowF n (neg1 k)))],69,1⟩) (fun k=>k≤n) (fun k=>n-k) 0 (Nat.zero_le _) (by refine zk.of' rfl ?_;simp only [wks,reduceIte,Nat.reduceEqDiff,ASt.okB,AV.okB,Nat.reduceLT,implies_true,Int.natCast_zero,neg1_zero,rowF_rep]) ?_
 intro k hk KL hKL
 by_cases hkn:k<n
 ·have hd:decide ((k:Int)<(n:Int))=true:=by simpa using hkn
  have hk0:(0:Int)≤(k:Int):=by omega
  have hst:=neg1_succ n k hkn
  repeat' (first|refine T.zh fun K hK=>?_|apply T.block|(refine T.reg (by kernel_rfl) fun K' hK'=>?_;simp only [bz];(with_reducible repeat' (first|(apply WL.fin;apply hK';clear hK' K')|(refine WL.step fun K2 hK2=>?_;simp only [simprocAttr,az,hd,hk0,Int.toNat_natCast,z0f,hkn,z0w _ hkn,hst];repeat' (first|(apply hK2;clear hK2 K2)|apply And.intro|intro hb)))))|apply T.skip|apply T.exit|refine T.zg rfl ?_|refine T.zf rfl ?_|refine T.cond rfl (fun hc=>?_) (fun hc=>?_)|apply T.ret|simp only [zb,za,reduceIte,Nat.reduceEqDiff]|((repeat ((fail_if_success apply hK);clear hK K));apply hK;clear hK K))
  refine hKL _ (k+1) ?_ hkn (by omega)
  refine zk.of' rfl ?_;simp only [wks,reduceIte,Nat.reduceEqDiff,ASt.okB,AV.okB,Nat.reduceLT,implies_true,zu (show k<1152921504606846976 by omega)]
 ·have hd:decide ((k:Int)<(n:Int))=false:=by simpa using hkn
  have hkn2:k=n:=by omega
  rw [hkn2] at hd ⊢
  repeat' (first|refine T.zh fun K hK=>?_|apply T.block|apply T.skip|apply T.exit|refine T.zg rfl ?_|refine T.zf rfl ?_|refine T.cond rfl (fun hc=>?_) (fun hc=>?_)|apply T.ret|simp only [zb,za,reduceIte,Nat.reduceEqDiff]|((repeat ((fail_if_success apply hK);clear hK K));apply hK;clear hK K))
  (refine T.reg (by kernel_rfl) fun K' hK'=>?_;simp only [bz];(with_reducible repeat' (first|(apply WL.fin;apply hK';clear hK' K')|(refine WL.step fun K2 hK2=>?_;simp only [simprocAttr,az,hd];repeat' (first|(apply hK2;clear hK2 K2)|apply And.intro|intro hb))));all_goals ((try simp only [zb,za,reduceIte,Nat.reduceEqDiff]);(try ((repeat ((fail_if_success apply hK);clear hK K));apply hK;clear hK K))))
  repeat' (first|refine T.zh fun K hK=>?_|apply T.block|apply T.skip|apply T.exit|refine T.zg rfl ?_|refine T.zf rfl ?_|refine T.cond rfl (fun hc=>?_) (fun hc=>?_)|apply T.ret|simp only [zb,za,reduceIte,Nat.reduceEqDiff]|((repeat ((fail_if_success apply hK);clear hK K));apply hK;clear hK K))
  (refine T.reg (by kernel_rfl) fun K' hK'=>?_;simp only [bz];(with_reducible repeat' (first|(apply WL.fin;apply hK';clear hK' K')|(refine WL.step fun K2 hK2=>?_;simp only [simprocAttr,az,hj0,Int.toNat_natCast,z0f,hjn,z0w _ hjn,hend];repeat' (first|(apply hK2;clear hK2 K2)|apply And.intro|intro hb))));all_goals ((try simp only [zb,za,reduceIte,Nat.reduceEqDiff]);(try ((repeat ((fail_if_success apply hK);clear hK K));apply hK;clear hK K))))
  repeat' (first|refine T.zh fun K hK=>?_|apply T.block|apply T.skip|apply T.exit|refine T.zg rfl ?_|refine T.zf rfl ?_|refine T.cond rfl (fun hc=>?_) (fun hc=>?_)|apply T.ret|simp only [zb,za,reduceIte,Nat.reduceEqDiff]|((repeat ((fail_if_success apply hK);clear hK K));apply hK;clear hK K))
  refine T.regO (d1 := 28) (d2 := 29) (av := .int j) 23 1 #[(0,.tmp 28)] 3 1 8 [[.val (.int .i64 j)]] (by kernel_rfl) rfl rfl rfl rfl (show 28<69 by decide) (show 29<69 by decide) ?_ rfl ?_ ?_ fun K' hK'=>?_
  ·simp only [List.map_cons,List.map_nil,simprocAttr,az]
  ·simp only [List.map_cons,List.map_nil,hm1,simprocAttr,az]
  ·simp only [tys]
  simp only [z0R,frOf,List.map_cons,List.map_nil,ASt.add,qJ,Nat.reduceAdd]
  (repeat' (first|(with_reducible refine WL.fin ?_;apply hK';clear hK' K')|(with_reducible refine WD.fin ?_)|((with_reducible first|refine WL.step fun K2 hK2=>?_|refine WD.step fun K2 hK2=>?_);simp only [simprocAttr,az];(repeat' with_reducible (first|(apply hK2;clear hK2 K2)|apply And.intro|intro hb)))))
  all_goals ((try simp only [zb,za,reduceIte,Nat.reduceEqDiff]);(try ((repeat ((fail_if_success apply hK);clear hK K));apply hK;clear hK K)))
  repeat' (first|refine T.zh fun K hK=>?_|apply T.block|apply T.skip|apply T.exit|refine T.zg rfl ?_|refine T.zf rfl ?_|refine T.cond rfl (fun hc=>?_) (fun hc=>?_)|apply T.ret|simp only [zb,za,reduceIte,Nat.reduceEqDiff]|((repeat ((fail_if_success apply hK);clear hK K));apply hK;clear hK K))
  refine T.label ?_
  repeat' (first|refine T.zh fun K hK=>?_|apply T.block|apply T.skip|apply T.exit|refine T.zg rfl ?_|refine T.zf rfl ?_|refine T.cond rfl (fun hc=>?_) (fun hc=>?_)|apply T.ret|simp only [zb,za,reduceIte,Nat.reduceEqDiff]|((repeat ((fail_if_success apply hK);clear hK K));apply hK;clear hK K))
  have hstart:=BfO.start (l:=l) (show i ≠ j by omega)
  have hua0:uaG (upG (fun _ => 0) j 1) n+1=uaG (fun _ => 0) n:=z8t rfl Nat.one_pos hjn
  have huan:=z8P n
  refine T.qC (fun p:(Nat→Nat) × List Nat × Nat=>⟨[(0,.p (.seq 1 BP)),(1,.int i),(2,.int j),(7,.own 0),(9,.suf 1 1 p.2.2)],[(0,.row 3 1 (rowF n (dsF p.1))),(1,.row 3 1 (rowI p.2.1))],69,2⟩)
   (fun p=>BfO l i j p.1 (p.2.1.drop p.2.2)∧p.2.2≤p.2.1.length ∧ 0<p.2.1.length∧p.2.1.length+uaG p.1 n≤n) (fun p => 2*uaG p.1 n+(p.2.1.length-p.2.2)) (upG (fun _ => 0) j 1,[j],0) ⟨hstart,Nat.zero_le _,by simp,by simp only [List.length_singleton];omega⟩ ?_ ?_
  ·refine zk.of' rfl ?_;simp only [wks,reduceIte,Nat.reduceEqDiff,ASt.okB,AV.okB,Nat.reduceLT,implies_true,AVle.ownSuf,rowI,List.map_cons,List.map_nil]
  rintro ⟨g,Q,m⟩ ⟨hB,hmQ,hQ0,hQn⟩ KL2 hKL2
  simp only at hB hmQ hQ0 hQn hKL2 ⊢
  have hQl:=z04 Q
  cases hq:Q.drop m with
  | nil =>
   have hQm:Q.length-m=0:=by have:=congrArg List.length hq;simpa using this
   have hd2:decide ((0:Int)<((Q.length-m:Nat):Int))=false:=by rw [hQm];rfl
   rw [hq] at hB
   repeat' (first|refine T.zh fun K hK=>?_|apply T.block|(refine T.reg (by kernel_rfl) fun K' hK'=>?_;simp only [bz];(with_reducible repeat' (first|(apply WL.fin;apply hK';clear hK' K')|(refine WL.step fun K2 hK2=>?_;simp only [simprocAttr,az,hQl,hmQ,hQ0,hd2];repeat' (first|(apply hK2;clear hK2 K2)|apply And.intro|intro hb)))))|apply T.skip|apply T.exit|refine T.zg rfl ?_|refine T.zf rfl ?_|refine T.cond rfl (fun hc=>?_) (fun hc=>?_)|apply T.ret|simp only [zb,za,reduceIte,Nat.reduceEqDiff]|((repeat ((fail_if_success apply hK);clear hK K));apply hK;clear hK K))
   all_goals (refine NoGt.ret ?_)
   all_goals (refine FinM.ret (s':=⟨[(6,.p (.seq 1 (rowF n (dsF g))))],[],69,0⟩) (r := .p (.seq 1 (rowF n (dsF g)))) (.inr rfl) Tryz.results18 ((zk.frz _ 0).trans (by simp only [ASt.frz,List.filter_cons,List.filter_nil,bne_self_eq_false,Nat.reduceBneDiff,Bool.false_eq_true,simprocAttr,implies_true,amz];refine zk.of' rfl ?_;simp only [wks,reduceIte,Nat.reduceEqDiff,ASt.okB,AV.okB,Nat.reduceLT,implies_true,])) rfl ?_ ?_)
   ·simp only [zw,zt,zq,simprocAttr,az]
   ·exact ⟨rfl,g,hB.fin,by rw [hn]⟩
  | cons k q =>
   have hmlt:m<Q.length:=by
    by_cases e:m<Q.length
    ·exact e
    ·rw [List.drop_eq_nil_of_le (by omega)] at hq;cases hq
   have hQk:Q[m]? = some k:=by
    have:=congrArg (fun r=>r[0]?) hq
    simpa [List.getElem?_drop] using this
   have hq1:Q.drop (m+1)=q:=by rw [← List.tail_drop,hq];rfl
   have hd2:decide ((0:Int)<((Q.length-m:Nat):Int))=true:=by simp;omega
   have m1:=z3p hQk
   rw [hq] at hB
   have hI:=hB.pop
   have hk0:=hB.qs k List.mem_cons_self
   have hkj:=(hB.top hk0).1
   have hkn:k<l.length:=by omega
   have hba:=hba k hkn
   have hki:(0:Int)≤(k:Int):=by omega
   have hm1Q:m+1≤Q.length:=hmlt
   have hbl:=z04 (befL l k)
   have hbk:=z6x l k
   repeat' (first|refine T.zh fun K hK=>?_|apply T.block|(refine T.reg (by kernel_rfl) fun K' hK'=>?_;simp only [bz];(with_reducible repeat' (first|(apply WL.fin;apply hK';clear hK' K')|(refine WL.step fun K2 hK2=>?_;simp only [simprocAttr,az,hQl,hmQ,hQ0,hd2,ht0,ht1,Nat.add_zero,hmlt,m1,hm1Q,hki,Int.toNat_natCast,hba,hbl];repeat' (first|(apply hK2;clear hK2 K2)|apply And.intro|intro hb)))))|apply T.skip|apply T.exit|refine T.zg rfl ?_|refine T.zf rfl ?_|refine T.cond rfl (fun hc=>?_) (fun hc=>?_)|apply T.ret|simp only [zb,za,reduceIte,Nat.reduceEqDiff]|((repeat ((fail_if_success apply hK);clear hK K));apply hK;clear hK K))
   refine T.qC (fun p:(Nat→Nat) × List Nat × Nat × Nat=>⟨[(0,.p (.seq 1 BP)),(1,.int i),(2,.int j),(7,.own 0),(9,.suf 1 1 p.2.2.1),(10,.int k),(41,.p (.seq 1 (rowI (befL l k)))),(42,.int (befL l k).length),(43,.int p.2.2.2)],[(0,.row 3 1 (rowF n (dsF p.1))),(1,.row 3 1 (rowI p.2.1))],69,2⟩)
    (fun p=>p.2.2.2≤(befL l k).length∧BfI l i j k ((befL l k).take p.2.2.2) p.1 (p.2.1.drop p.2.2.1)∧p.2.2.1≤p.2.1.length ∧ 0<p.2.1.length∧p.2.1.length+uaG p.1 n≤n ∧ 2*uaG p.1 n+(p.2.1.length-p.2.2.1)+1≤2*uaG g n+(Q.length-m)) (fun p=>(befL l k).length-p.2.2.2) (g,Q,m+1,0) ⟨Nat.zero_le _,by rw [List.take_zero,hq1];exact hI,hm1Q,hQ0,hQn,by simp only;omega⟩ (by refine zk.of' rfl ?_;simp only [wks,reduceIte,Nat.reduceEqDiff,ASt.okB,AV.okB,Nat.reduceLT,implies_true,Int.natCast_zero]) ?_
   rintro ⟨g2,Q2,m2,x⟩ ⟨hx,hI2,hmQ2,hQ02,hQn2,hM⟩ KL3 hKL3
   simp only at hx hI2 hmQ2 hQ02 hQn2 hM hKL3 ⊢
   by_cases hxl:x<(befL l k).length
   ·have hd3:decide ((x:Int)<((befL l k).length:Int))=true:=by simpa using hxl
    have hx0:(0:Int)≤(x:Int):=by omega
    obtain ⟨p,hp⟩:=zQ hxl
    have p1:=z3p hp
    have hpm:=z2h.1 (List.mem_of_getElem? hp)
    have hpn:p<n:=by omega
    have hp0:(0:Int)≤(p:Int):=by omega
    have hkn2:k<n:=by omega
    have htk:(befL l k).take (x+1)=(befL l k).take x ++ [p]:=by rw [List.take_add_one,hp];rfl
    by_cases hgp : 0<g2 p
    ·have hd4:decide ((0:Int)≤dsF g2 p)=true:=by simp [dsF];omega
     repeat' (first|refine T.zh fun K hK=>?_|apply T.block|(refine T.reg (by kernel_rfl) fun K' hK'=>?_;simp only [bz];(with_reducible repeat' (first|(apply WL.fin;apply hK';clear hK' K')|(refine WL.step fun K2 hK2=>?_;simp only [simprocAttr,az,hd3,hx0,Int.toNat_natCast,p1,hp0,z0f,hpn,z0w _ hpn,hd4];repeat' (first|(apply hK2;clear hK2 K2)|apply And.intro|intro hb)))))|apply T.skip|apply T.exit|refine T.zg rfl ?_|refine T.zf rfl ?_|refine T.cond rfl (fun hc=>?_) (fun hc=>?_)|apply T.ret|simp only [zb,za,reduceIte,Nat.reduceEqDiff]|((repeat ((fail_if_success apply hK);clear hK K));apply hK;clear hK K))
     refine hKL3 _ (g2,Q2,m2,x+1) ?_ ⟨hxl,by rw [htk];exact hI2.skip hgp,hmQ2,hQ02,hQn2,hM⟩ (by simp only;omega)
     refine zk.of' rfl ?_;simp only [wks,reduceIte,Nat.reduceEqDiff,ASt.okB,AV.okB,Nat.reduceLT,implies_true,zu (show x<1152921504606846976 by omega)]
    ·have hgp0:g2 p=0:=by omega
     have hd4:decide ((0:Int)≤dsF g2 p)=false:=by simp [dsF];omega
     have hgk:=hI2.gk
     have hkt:=(hI2.top hgk).2
     have hwk:IntKind.i64.wrap (dsF g2 k+1)=((g2 k:Nat):Int):=by
      rw [show dsF g2 k+1=((g2 k:Nat):Int) by simp [dsF]]
      exact z4h (by omega) (by omega)
     have hst:=z6m (dsF g2) ((g2 k:Nat):Int) hpn
     rw [dsF_up] at hst
     have hup:=z8t (g:=g2) (p:=p) (v:=g2 k+1) hgp0 (Nat.succ_pos _) hpn
     by_cases hpi:p=i
     ·have hd5:((p:Int)==(i:Int))=true:=by rw [hpi];simp
      have hR:=hI2.brk (by omega) (by rw [← hpi];exact hpm.2) (show i ≠ j by omega)
      rw [← hpi] at hR
      repeat' (first|refine T.zh fun K hK=>?_|apply T.block|(refine T.reg (by kernel_rfl) fun K' hK'=>?_;simp only [bz];(with_reducible repeat' (first|(apply WL.fin;apply hK';clear hK' K')|(refine WL.step fun K2 hK2=>?_;simp only [simprocAttr,az,hd3,hx0,Int.toNat_natCast,p1,hp0,hki,z0f,hpn,hkn2,z0w _ hpn,z0w _ hkn2,hd4,hwk,hst,hd5];repeat' (first|(apply hK2;clear hK2 K2)|apply And.intro|intro hb)))))|apply T.skip|apply T.exit|refine T.zg rfl ?_|refine T.zf rfl ?_|refine T.cond rfl (fun hc=>?_) (fun hc=>?_)|apply T.ret|simp only [zb,za,reduceIte,Nat.reduceEqDiff]|((repeat ((fail_if_success apply hK);clear hK K));apply hK;clear hK K))
      all_goals (refine NoGt.ret ?_)
      all_goals (refine FinM.ret (s':=⟨[(6,.p (.seq 1 (rowF n (dsF (upG g2 p (g2 k+1))))))],[],69,0⟩) (r := .p (.seq 1 (rowF n (dsF (upG g2 p (g2 k+1)))))) (.inr rfl) Tryz.results18 ((zk.frz _ 0).trans (by simp only [ASt.frz,List.filter_cons,List.filter_nil,bne_self_eq_false,Nat.reduceBneDiff,Bool.false_eq_true,simprocAttr,implies_true,amz];refine zk.of' rfl ?_;simp only [wks,reduceIte,Nat.reduceEqDiff,ASt.okB,AV.okB,Nat.reduceLT,implies_true,])) rfl ?_ ?_)
      ·simp only [zw,zt,zq,simprocAttr,az]
      ·exact ⟨rfl,_,by rw [← hpi];exact hR,by rw [hn]⟩
     ·have hd5:((p:Int)==(i:Int))=false:=by rw [beq_eq_false_iff_ne];omega
      have hQl2:=z04 Q2
      have hb3:Q2.length+1≤maxLen:=by unfold maxLen;omega
      have hb4:(Q2.length+1)*8≤140737488355328:=by omega
      have hsn:=z1k Q2 p
      have hsn2:List.drop m2 (rowI Q2) ++ [[PV.val (.int .i64 (p:Int))]]=rowI (Q2.drop m2 ++ [p]):=by rw [rowI_drop];exact z1k _ _
      have hI3:=hI2.set hpm.1 hpm.2 hgp0 hpi
      rw [← htk] at hI3
      repeat' (first|refine T.zh fun K hK=>?_|apply T.block|(refine T.reg (by kernel_rfl) fun K' hK'=>?_;simp only [bz];(with_reducible repeat' (first|(apply WL.fin;apply hK';clear hK' K')|(refine WL.step fun K2 hK2=>?_;simp only [simprocAttr,az,hd3,hx0,Int.toNat_natCast,p1,hp0,hki,z0f,hpn,hkn2,z0w _ hpn,z0w _ hkn2,hd4,hwk,hst,hd5,hm1,hQl2,hmQ2,hQ02,hb3,hb4,List.length_cons,List.length_nil,Nat.zero_add,hsn,hsn2];repeat' (first|(apply hK2;clear hK2 K2)|apply And.intro|intro hb)))))|apply T.skip|apply T.exit|refine T.zg rfl ?_|refine T.zf rfl ?_|refine T.cond rfl (fun hc=>?_) (fun hc=>?_)|apply T.ret|simp only [zb,za,reduceIte,Nat.reduceEqDiff]|((repeat ((fail_if_success apply hK);clear hK K));apply hK;clear hK K))
      ·refine hKL3 _ (upG g2 p (g2 k+1),Q2 ++ [p],m2,x+1) ?_ ⟨hxl,?_,?_,?_,?_,?_⟩ (by simp only;omega)
       ·refine zk.of' rfl ?_;simp only [wks,reduceIte,Nat.reduceEqDiff,ASt.okB,AV.okB,Nat.reduceLT,implies_true,zu (show x<1152921504606846976 by omega)]
       ·simp only
        rw [List.drop_append_of_le_length hmQ2];exact hI3
       ·simp only [List.length_append];omega
       ·simp
       ·simp only [List.length_append,List.length_cons,List.length_nil];omega
       ·simp only [List.length_append,List.length_cons,List.length_nil];omega
      ·refine hKL3 _ (upG g2 p (g2 k+1),Q2.drop m2 ++ [p],0,x+1) ?_ ⟨hxl,?_,Nat.zero_le _,?_,?_,?_⟩ (by simp only;omega)
       ·exact (zk.ren _ 2 1).trans (by refine zk.of' rfl ?_;simp only [wks,reduceIte,Nat.reduceEqDiff,ASt.okB,AV.okB,Nat.reduceLT,implies_true,ASt.ren,AV.ql,AV.qZ,AV.qH,AV.z0n,AV.z1Q,AV.z0k,AV.qI,AV.qG,AV.z1a,AV.z0m,AV.z0l,AO.z0t,AO.qK,AO.z0C,AO.z0z,List.map_cons,List.map_nil,List.filter_cons,List.filter_nil,zy,qP,Nat.reduceBneDiff,bne_self_eq_false,Bool.and_false,Bool.false_and,Bool.false_eq_true,ne_eq,not_false_eq_true,not_true_eq_false,and_self,and_false,AVle.ownSuf,zu (show x<1152921504606846976 by omega)])
       ·simp only [List.drop_zero];exact hI3
       ·simp
       ·simp only [List.length_append,List.length_drop,List.length_cons,List.length_nil];omega
       ·simp only [List.length_append,List.length_drop,List.length_cons,List.length_nil];omega
   ·have hd3:decide ((x:Int)<((befL l k).length:Int))=false:=by simpa using hxl
    have hxe:x=(befL l k).length:=by omega
    repeat' (first|refine T.zh fun K hK=>?_|apply T.block|(refine T.reg (by kernel_rfl) fun K' hK'=>?_;simp only [bz];(with_reducible repeat' (first|(apply WL.fin;apply hK';clear hK' K')|(refine WL.step fun K2 hK2=>?_;simp only [simprocAttr,az,hd3];repeat' (first|(apply hK2;clear hK2 K2)|apply And.intro|intro hb)))))|apply T.skip|apply T.exit|refine T.zg rfl ?_|refine T.zf rfl ?_|refine T.cond rfl (fun hc=>?_) (fun hc=>?_)|apply T.ret|simp only [zb,za,reduceIte,Nat.reduceEqDiff]|((repeat ((fail_if_success apply hK);clear hK K));apply hK;clear hK K))
    refine hKL2 _ (g2,Q2,m2) ?_ ⟨hI2.done fun p h1 h2=>?_,hmQ2,hQ02,hQn2⟩ (by simp only;omega)
    ·refine zk.of' rfl ?_;simp only [wks,reduceIte,Nat.reduceEqDiff,ASt.okB,AV.okB,Nat.reduceLT,implies_true,]
    ·rw [hxe,List.take_length];exact z2h.2 ⟨h1,h2⟩
theorem qY {α:Type} (c k:Nat) : ∀ (l:List (Nat × α)),(l.filter fun p=>p.1 != c).lookup k=if k=c then none else l.lookup k
 | []=>by simp
 | (a,b) :: r=>by
  rw [List.filter_cons]
  by_cases h:a=c
  ·subst h
   rw [if_neg (by simp),qY a k r]
   by_cases e:k=a
   ·rw [if_pos e,if_pos e]
   ·rw [if_neg e,if_neg e,ze e]
  ·rw [if_pos (by simpa using h)]
   by_cases e:k=a
   ·subst e;rw [zi,if_neg h,zi]
   ·rw [ze e,qY c k r,ze e]
theorem lkH {B n:Nat} (hB:B=1000010) (F G:Nat→List Nat) (hn:n≤1000000) (q:Nat):List.lookup q (mat 3 1 10 (matI n F)++mat 3 1 B (matI n G))=if 10≤q∧q<n+10 then some (.row 3 1 (rowI (F (q-10)))) else if B≤q∧q<n+B then some (.row 3 1 (rowI (G (q-B)))) else none:=by
 rw [qg,z4r,z4r]
 by_cases h1 : 10≤q∧q<n+10
 ·rw [if_pos h1,if_pos h1.1,z2E F (by omega)];rfl
 ·rw [if_neg h1]
  have e1:(if 10≤q then ((matI n F)[q-10]?).map (AO.row 3 1) else none)=none:=by
   split
   ·rw [List.getElem?_eq_none (by rw [z0r];omega)];rfl
   ·rfl
  rw [e1,Option.none_or]
  by_cases h2:B≤q∧q<n+B
  ·rw [if_pos h2,if_pos h2.1,z2E G (by omega)];rfl
  ·rw [if_neg h2]
   split
   ·rw [List.getElem?_eq_none (by rw [z0r];omega)];rfl
   ·rfl
theorem zk.renTo (s:ASt) (t t' : Nat) (o:AO) (h:s.hp.lookup t=some o) (ht' : t' < s.N) (hne:t ≠ t') (fr' : List (Nat × AV)) (hp' : Hp) (m:Nat) (hfr : ∀ p ∈ fr',AVle ((s.get p.1).ren t t') p.2) (hok:(fr'.all fun p=>p.2.okB m)=true)
  (he : ∀ q,hp'.lookup q=if q=t∨q=t' then (if q=t' then some (o.ren t t') else none) else (s.hp.lookup q).map (AO.ren t t')) (hhp : ∀ q o,hp'.lookup q=some o→q<m∧o.okB m=true):zk s ⟨fr',hp',s.n,m⟩:=by
 refine (zk.ren s t t').trans ?_
 have hr:s.ren t t' = { s with fr:=s.fr.map fun p=>(p.1,p.2.ren t t'),hp:=(t',o.ren t t') :: (s.hp.filter fun p=>p.1 != t&&p.1 != t').map fun p=>(p.1,p.2.ren t t') }:=by
  unfold ASt.ren
  rw [h]
  simp only
  rw [if_pos ⟨ht',hne⟩]
 rw [hr]
 refine zk.frm _ fr' hp' m (fun q=>?_) (fun p hp=>?_) hok hhp
 ·rw [he q]
  by_cases e:q=t'
  ·subst e;rw [if_pos (.inr rfl),if_pos rfl,zi]
  ·rw [ze e,zI,z1K]
   by_cases e2:q=t
   ·rw [if_pos (.inl e2),if_neg e,if_pos (.inl e2)];rfl
   ·rw [if_neg (by simp [e,e2]),if_neg (by simp [e,e2])]
 ·have:ASt.get { s with fr:=s.fr.map fun p=>(p.1,p.2.ren t t'),hp:=(t',o.ren t t') :: (s.hp.filter fun p=>p.1 != t&&p.1 != t').map fun p=>(p.1,p.2.ren t t') } p.1=(s.get p.1).ren t t':=by
   unfold ASt.get
   simp only [zI]
   cases s.fr.lookup p.1 <;> simp [AV.ren]
  rw [this]
  exact hfr p hp
end Go.Proofs.YtdlgoofjechocaaGreatDoor
