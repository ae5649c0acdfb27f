/- Texts Pu, Pv, Pw. -/
import Derived.Test.YtdlgoofjechocaaZ06
set_option maxHeartbeats 32000000
set_option maxRecDepth 100000
set_option linter.unusedSimpArgs false
set_option linter.unusedVariables false
namespace Go.Proofs.Ytdlgoofjechocaa
open Go.RowKit Go.Sort Go.Maps
set_option linter.unusedSectionVars false
def nI (i:Nat):Value := .int .i64 (i:Int)
def qL (r:List Nat):List (List PV):=r.map fun (i:Nat) => [PV.val (.int .i64 ((i:Nat):Int))]
noncomputable def atM (B:Nat) (m:Int→Int→Option Nat):Lit→Option AV:=plA fun o f=>(m o f).map fun i=>AV.own (i+B)
structure It where
 j:Nat
 m:Int→Int→Option Nat
 R:List (List Nat)
 a:Nat
 b:Nat
 c:Nat
 d:Nat
noncomputable def hpI (B:Nat) (l:List Ev) (s:It) (tl:Hp):Hp:=(5000000,.map none Try.prog 3 s.a (inM nI fun g=>z0y l (fun d=>d.g==g) s.j)) :: (5000001,.map none Try.prog 3 s.b (inM nI fun g=>z0y l (z0T g) s.j)) :: (5000002,.amap Try.prog 85 s.c (atM B s.m) none) :: (5000003,.map none Try.prog 85 s.d (plM nI fun o f=>z0y l (wrAt o f) s.j)) :: (mat 3 1 B (s.R.map qL)++tl)
structure ItOk (l:List Ev) (s:It):Prop where
 j:s.j≤l.length
 R:s.R.length≤s.j
 row : ∀ o f i,s.m o f=some i→s.R[i]? = some (atL l o f s.j)
 none : ∀ o f,s.m o f=none→atL l o f s.j = []
 inj : ∀ o f o' f' i,s.m o f=some i→s.m o' f' = some i→o=o' ∧ f=f'
 a:s.a≤s.j
 b:s.b≤s.j
 c:s.c≤2*s.j
 d:s.d≤s.j
theorem AV.z1l {n m:Nat} (h:n≤m) : ∀ x:AV,x.okB n=true→x.okB m=true
 | .own k,hx=>by simp only [AV.okB,decide_eq_true_eq] at hx ⊢;omega
 | .pre k _,hx=>by simp only [AV.okB,decide_eq_true_eq] at hx ⊢;omega
 | .suf k _ _,hx=>by simp only [AV.okB,decide_eq_true_eq] at hx ⊢;omega
 | .ptr k _,hx=>by simp only [AV.okB,decide_eq_true_eq] at hx ⊢;omega
 | .rptr k _ _ _,hx=>by simp only [AV.okB,decide_eq_true_eq] at hx ⊢;omega
 | .fn f cs,hx=>by
  rw [AV.qJ,List.all_eq_true] at hx ⊢
  exact fun c hc=>AV.z1l h c (hx c hc)
 | .agg cs,hx=>by
  rw [AV.qx,List.all_eq_true] at hx ⊢
  exact fun c hc=>AV.z1l h c (hx c hc)
 | .tup cs,hx=>by
  rw [AV.qM,List.all_eq_true] at hx ⊢
  exact fun c hc=>AV.z1l h c (hx c hc)
 | .p x,_=>by simp only [AV.okB]
 | .elt r k,_=>by simp only [AV.okB]
 | .cap0,_=>by simp only [AV.okB]
 | .zH,_=>by simp only [AV.okB]
termination_by x=>SizeOf.sizeOf x
decreasing_by all_goals (have:=List.sizeOf_lt_of_mem hc;simp;omega)
theorem AO.z1l {n m:Nat} {o:AO} (ho:o.okB n=true) (h:n≤m):o.okB m=true:=by
 cases o with
 | boxP pin ty cs=>rw [AO.qC,List.all_eq_true] at ho ⊢;exact fun c hc=>AV.z1l h c (ho c hc)
 | row e m rows=>rfl
 | map pin P k m f=>rfl
 | raw u ob=>rfl
 | lrec l sp fr=>rw [AO.z5M,List.all_eq_true] at ho ⊢;exact fun c hc=>AV.z1l h c.2 (ho c hc)
 | amap P k m f q =>
  simp only [AO.okB,decide_eq_true_eq] at ho ⊢
  exact fun l x hx=>AV.z1l h x (ho l x hx)
 | arow e cs=>rw [AO.z6t,List.all_eq_true] at ho ⊢;exact fun c hc=>AV.z1l h c (ho c hc)
section
variable {B:Nat} (hB:B=2000010) {R:List (List (List PV))} (hR:R.length≤1000000) {tl:Hp} (ht:HpOk 2000000 tl)
include ht
theorem tl_row {i:Nat} {r:List (List PV)} (h:R[i]? = some r):List.lookup (i+B) (mat 3 1 B R++tl)=some (.row 3 1 r):=by
 rw [z09,z3y,h];rfl
include hB hR in
theorem z10 {t:Nat} (o:AO) (h : 5000000≤t):List.map (fun p=>if p.1=t then (t,o) else p) (mat 3 1 B R++tl)=mat 3 1 B R++tl:=by
 rw [List.map_append,ht.set o (by omega)]
 congr 1
 exact z0e fun p hp=>by rw [if_neg];have:=(z2p _ _ _ _ p hp).2.1;omega
include hB in
theorem tl_setI (i:Nat) (r:List (List PV)):List.map (fun p=>if p.1=i+B then (i+B,.row 3 1 r) else p) (mat 3 1 B R++tl)=mat 3 1 B (R.set i r)++tl:=by
 rw [List.map_append,ht.set _ (by omega),z3V]
theorem tl_sub {t:Nat} (y:AV) (h : 2000000≤t):List.map (fun p=>(p.1,AO.sub t y p.2)) (mat 3 1 B R++tl)=mat 3 1 B R++tl:=by
 rw [List.map_append,ht.sub y h,z5a]
theorem tl_ren {t t' : Nat} (h : 2000000≤t) (h' : 2000000≤t'):List.map (fun p=>(p.1,AO.ren t t' p.2)) (mat 3 1 B R++tl)=mat 3 1 B R++tl:=by
 rw [List.map_append,ht.ren h h',z8n]
include hB hR
theorem qc {t:Nat} (h : 5000000≤t):List.lookup t (mat 3 1 B R++tl)=none:=by
 rw [z09,z7J _ _ _ _ _ (by omega),ht.none (by omega)];rfl
theorem tl_ne2 {t:Nat} (h : 5000000≤t):List.filter (fun p=>p.1 != t&&p.1 != R.length+B) (mat 3 1 B R++tl)=mat 3 1 B R++tl:=by
 rw [List.filter_append,ht.ne2 (by omega) (by omega),z8C _ _ _ _ _ _ (.inr (by omega)) (.inr (by omega))]
theorem tl_ok {t:Nat} {o:AO} (h:List.lookup t (mat 3 1 B R++tl)=some o):t<5000000∧o.okB 5000000=true:=by
 rw [z09] at h
 cases hm:(mat 3 1 B R).lookup t with
 | some o' =>
  rw [hm] at h
  cases h
  obtain ⟨h1,h2,r,_,h3⟩:=z2p _ _ _ _ _ (z02 hm)
  simp only at h1 h2 h3
  rw [h3]
  exact ⟨by omega,rfl⟩
 | none =>
  rw [hm] at h
  obtain ⟨h1,h2⟩:=ht.at' h
  exact ⟨by omega,AO.z1l h2 (by omega)⟩
end
theorem atM_ok {B:Nat} (hB:B=2000010) {l:List Ev} (hl:l.length≤1000000) {s:It} (hs:ItOk l s) (kl:Lit) (x:AV) (h:atM B s.m kl=some x):x.okB 5000004=true:=by
 unfold atM plA at h
 obtain ⟨q,h1,h2⟩:=Option.bind_eq_some_iff.1 h
 obtain ⟨i,h3,rfl⟩:=Option.map_eq_some_iff.1 h2
 have h4:=(List.getElem?_eq_some_iff.1 (hs.row _ _ _ h3)).1
 have h5:=hs.R
 have h6:=hs.j
 simp only [AV.okB,decide_eq_true_eq]
 omega
theorem z2h {B:Nat} (hB:B=2000010) {l:List Ev} (hl:l.length≤1000000) {s:It} (hs:ItOk l s) {tl:Hp} (ht:HpOk 2000000 tl) (t:Nat) (o:AO) (h:(hpI B l s tl).lookup t=some o):t<5000004∧o.okB 5000004=true:=by
 have hR:(s.R.map qL).length≤1000000:=by have:=hs.R;have:=hs.j;simp;omega
 unfold hpI at h
 simp only [zC] at h
 split at h
 ·cases h;exact ⟨by omega,rfl⟩
 split at h
 ·cases h;exact ⟨by omega,rfl⟩
 split at h
 ·cases h;exact ⟨by omega,AO.okB_amap _ _ _ _ _ _ (atM_ok hB hl hs)⟩
 split at h
 ·cases h;exact ⟨by omega,rfl⟩
 obtain ⟨h1,h2⟩:=tl_ok hB hR ht h
 exact ⟨by omega,AO.z1l h2 (by omega)⟩
noncomputable def ownI (B:Nat) (l:List Ev) (e:Ev) (s:It):Hp:=(5000005,.boxP none 85 [.p (.val (.int .i64 e.obj)),.p (.val (.int .i64 e.off))]) :: (5000004,.boxP none 39 [.p (.val (.int .i64 e.g)),.p (.val (.int .i64 e.kind)),.p (.val (.int .i64 e.obj)),.p (.val (.int .i64 e.off)),.p (.val (.int .i64 e.k)),.p (.val (.int .i64 e.n)),.p (.val (.int .i64 e.fn)),.p (.val (.int .i64 e.pc)),.p (.val (.int .i64 e.st))]) ::
 (5000000,.map none Try.prog 3 s.a (inM nI fun g=>z0y l (fun d=>d.g==g) s.j)) :: (5000001,.map none Try.prog 3 s.b (inM nI fun g=>z0y l (z0T g) s.j)) :: (5000002,.amap Try.prog 85 s.c (atM B s.m) none) :: (5000003,.map none Try.prog 85 s.d (plM nI fun o f=>z0y l (wrAt o f) s.j)) :: mat 3 1 B (s.R.map qL)
def frI (l:List Ev) (y j:Nat):List (Nat × AV) := [(0,.own y),(1,.elt [.seq 9 (l.map evC)] 0),(3,.own 5000000),(4,.own 5000001),(5,.own 5000002),(6,.own 5000003),(7,.int j),(8,.ptr 5000004 0),(9,.ptr 5000005 0),(25,.p (.seq 9 (l.map evC))),(26,.int l.length),(27,.int j)]
theorem z1S {B:Nat} (hB:B=2000010) (l:List Ev) (e:Ev) (s:It) : ∀ p ∈ ownI B l e s,2000000≤p.1:=by
 intro p hp
 simp only [ownI,List.mem_cons] at hp
 rcases hp with rfl|rfl|rfl|rfl|rfl|rfl|hp
 all_goals first|(simp only [];omega)|(have:=(z2p _ _ _ _ p hp).1;omega)
theorem z7L {t:Nat} {o:AO} {A:Hp} (h : 2000000≤t) (hA : ∀ p ∈ A,2000000≤p.1) : ∀ p ∈ ((t,o) :: A:Hp),2000000≤p.1:=fun p hp=>by
 rcases List.mem_cons.1 hp with rfl|h1
 ·exact h
 ·exact hA p h1
theorem z2Y {B:Nat} (hB:B=2000010) (l:List Ev) (e:Ev) (s:It) (y:Nat):(ownI B l e s).map (fun p=>(p.1,p.2.keep 2000000 [y]))=ownI B l e s:=by
 have hm:(AO.amap Try.prog 85 s.c (atM B s.m) none).keep 2000000 [y] = .amap Try.prog 85 s.c (atM B s.m) none:=by
  simp only [AO.keep]
  congr 1
  unfold atM
  rw [plA_map]
  congr 1
  funext o f
  rw [Option.map_map]
  congr 1
  funext i
  simp only [Function.comp,AV.qf]
  rw [if_pos (.inl (by omega))]
 unfold ownI
 simp only [List.map_cons,hm,mat_keep,AO.z3g,AO.keep_map,AV.qH,List.map_nil]
theorem z0H {B:Nat} (hB:B=2000010) {l:List Ev} (hl:l.length≤1000000) {e:Ev} {s:It} (hs:ItOk l s) {tl:Hp} (ht:HpOk 2000000 tl) (t:Nat) (o:AO) (h:List.lookup t (ownI B l e s++tl)=some o):t<5000006∧o.okB 5000006=true:=by
 have h' : List.lookup t ((5000005,AO.boxP none 85 [.p (.val (.int .i64 e.obj)),.p (.val (.int .i64 e.off))]) :: (5000004,.boxP none 39 [.p (.val (.int .i64 e.g)),.p (.val (.int .i64 e.kind)),.p (.val (.int .i64 e.obj)),.p (.val (.int .i64 e.off)),.p (.val (.int .i64 e.k)),.p (.val (.int .i64 e.n)),.p (.val (.int .i64 e.fn)),.p (.val (.int .i64 e.pc)),.p (.val (.int .i64 e.st))]) :: hpI B l s tl)=some o:=h
 rw [zC] at h'
 split at h'
 ·cases h';exact ⟨by omega,by simp [AO.qC,AV.okB]⟩
 rw [zC] at h'
 split at h'
 ·cases h';exact ⟨by omega,by simp [AO.qC,AV.okB]⟩
 obtain ⟨h1,h2⟩:=z2h hB hl hs ht t o h'
 exact ⟨by omega,AO.z1l h2 (by omega)⟩
theorem z5Z {B:Nat} (hB:B=2000010) {l:List Ev} (hl:l.length≤1000000) {e f:Ev} {s:It} (hs:ItOk l s) {tl:Hp} (ht:HpOk 2000000 tl) (t:Nat) (o:AO) (h:List.lookup t ((5000006,AO.boxP none 39 [.p (.val (.int .i64 f.g)),.p (.val (.int .i64 f.kind)),.p (.val (.int .i64 f.obj)),.p (.val (.int .i64 f.off)),.p (.val (.int .i64 f.k)),.p (.val (.int .i64 f.n)),.p (.val (.int .i64 f.fn)),.p (.val (.int .i64 f.pc)),.p (.val (.int .i64 f.st))]) :: (ownI B l e s++tl))=some o):t<5000007∧o.okB 5000007=true:=by
 rw [zC] at h
 split at h
 ·cases h;exact ⟨by omega,by simp [AO.qC,AV.okB]⟩
 obtain ⟨h1,h2⟩:=z0H hB hl hs ht t o h
 exact ⟨by omega,AO.z1l h2 (by omega)⟩
theorem z06 (r:List Nat):(qL r).length=r.length:=by simp [qL]
theorem z4B {r:List Nat} {q i:Nat} (h:r[q]? = some i):(qL r)[q]? = some [PV.val (.int .i64 (i:Int))]:=by
 unfold qL;rw [List.getElem?_map,h];rfl
theorem z8u {R:List (List Nat)} {i:Nat} {r:List Nat} (h:R[i]? = some r):(R.map qL)[i]? = some (qL r):=by
 rw [List.getElem?_map,h];rfl
theorem z7H (l:List Ev) (e:Ev) (j:Nat) {r:List Nat} {q i:Nat} {f:Ev} (h:r[q]? = some i) (hf:l[i]? = some f):z2g l e j (r.take (q+1))=z2g l e j (r.take q)++if z4c f e then [⟨i,j,e.kind⟩] else []:=by
 rw [List.take_add_one,h]
 unfold z2g
 rw [List.filter_append,List.map_append]
 congr 1
 simp only [Option.toList_some,List.filter_cons,List.filter_nil,hf,Option.any_some]
 split <;> rfl
theorem z9D (l:List Ev) (e:Ev) (j:Nat) (r:List Nat) (q:Nat):z2g l e j r=z2g l e j (r.take q)++z2g l e j (r.drop q):=by
 unfold z2g
 rw [← List.map_append,← List.filter_append,List.take_append_drop]
theorem z5l {A H:Hp} (hA : ∀ p ∈ A,2000000≤p.1) (hH:HpOk 2000000 H) (t:Nat):List.lookup t (A++H)=List.lookup t (H++A):=by
 rw [z09,z09]
 by_cases h:t<2000000
 ·have:A.lookup t=none:=by
   cases hl:A.lookup t with
   | none=>rfl
   | some o=>have:=hA _ (z02 hl);simp only at this;omega
  rw [this];simp
 ·rw [hH.none (by omega)];simp
theorem z9n {H:List Ed→Hp} {y:Nat} {hv:Value} (hh : ∀ acc,∃ o,(H acc).lookup y=some o∧o.handle=some hv) (a b:List Ed):Kept (H a) (H b) y:=by
 obtain ⟨o,h1,h2⟩:=hh a
 obtain ⟨o',h3,h4⟩:=hh b
 unfold Kept
 rw [h1,h3]
 exact ⟨by rw [h2];rfl,by rw [h2,h4]⟩
theorem z96 {l:List Ev} : ∀ (n j:Nat),j≤n → ∃ r,z0Z l n=z0Z l j++r
 | 0,j,h=>⟨[],by rw [show j=0 by omega];rfl⟩
 | n+1,j,h=>by
  by_cases e:j=n+1
  ·exact ⟨[],by rw [e,List.append_nil]⟩
  ·obtain ⟨r,hr⟩:=z96 n j (by omega)
   exact ⟨r++_,by rw [z0Z,hr,List.append_assoc]⟩
theorem z3o {l:List Ev} {j:Nat} {e:Ev} (hx:l[j]? = some e):updF (inM nI fun g=>z0y l (fun d=>d.g==g) j) (.int .i64 e.g) (some (.int .i64 (j:Int)))=inM nI fun g=>z0y l (fun d=>d.g==g) (j+1):=by
 rw [show Value.int .i64 (j:Int)=nI j from rfl,z9C]
 congr 1
 funext g
 rw [z3C hx]
 by_cases h:g=e.g
 ·subst h;simp
 ·rw [if_neg h,if_neg (by simpa using fun h'=>h h'.symm)]
theorem zaY {l:List Ev} {j:Nat} {e:Ev} (hx:l[j]? = some e) (hk:(e.kind==14)=true):updF (inM nI fun g=>z0y l (z0T g) j) (.int .i64 e.k) (some (.int .i64 (j:Int)))=inM nI fun g=>z0y l (z0T g) (j+1):=by
 rw [show Value.int .i64 (j:Int)=nI j from rfl,z9C]
 congr 1
 funext g
 rw [z3C hx,z0T,hk,Bool.true_and]
 by_cases h:g=e.k
 ·subst h;simp
 ·rw [if_neg h,if_neg (by simpa using fun h'=>h h'.symm)]
theorem z1F {l:List Ev} {j:Nat} {e:Ev} (hx:l[j]? = some e) (hk:(e.kind==14)=false):(fun g=>z0y l (z0T g) (j+1))=fun g=>z0y l (z0T g) j:=by
 funext g
 rw [z3C hx,z0T,hk];rfl
theorem wr_upd {l:List Ev} {j:Nat} {e:Ev} (hx:l[j]? = some e) (hk:wrAt e.obj e.off e=true) (iO:inI e.obj) (iF:inI e.off):updF (plM nI fun o f=>z0y l (wrAt o f) j) (kyl e.obj e.off) (some (.int .i64 (j:Int)))=plM nI fun o f=>z0y l (wrAt o f) (j+1):=by
 rw [show Value.int .i64 (j:Int)=nI j from rfl,z9G _ _ iO iF]
 congr 1
 funext o f
 rw [z3C hx]
 by_cases h:o=e.obj∧f=e.off
 ·obtain ⟨rfl,rfl⟩:=h
  rw [if_pos ⟨rfl,rfl⟩,if_pos hk]
 ·rw [if_neg h,if_neg]
  intro hw
  simp only [wrAt,Bool.and_eq_true,beq_iff_eq] at hw
  exact h ⟨hw.1.2.symm,hw.2.symm⟩
theorem z5W {l:List Ev} {j:Nat} {e:Ev} (hx:l[j]? = some e) (h4:(e.kind==4)=false) (h5:(e.kind==5)=false):(fun o f=>z0y l (wrAt o f) (j+1))=fun o f=>z0y l (wrAt o f) j:=by
 funext o f
 rw [z3C hx,wrAt,h4,h5];rfl
theorem z6b {l:List Ev} {s:It} (hs:ItOk l s) {e:Ev} (hx:l[s.j]? = some e) (hp:pubK e.kind=false) (a b c d:Nat) (ha:a≤s.j+1) (hb:b≤s.j+1) (hc:c≤2*(s.j+1)) (hd:d≤s.j+1):ItOk l ⟨s.j+1,s.m,s.R,a,b,c,d⟩:=by
 have hat : ∀ o f,atL l o f (s.j+1)=atL l o f s.j:=fun o f=>by rw [z3W hx,z5y,hp];simp
 have h1:=(List.getElem?_eq_some_iff.1 hx).1
 exact ⟨h1,by have:=hs.R;simp only;omega,fun o f i h=>by rw [hat];exact hs.row o f i h,fun o f h=>by rw [hat];exact hs.none o f h,hs.inj,ha,hb,hc,hd⟩
theorem z3t {e:Ev} (hp:pubK e.kind=true) (o f:Int):z5y o f e=true↔o=e.obj∧f=e.off:=by
 simp only [z5y,hp,Bool.true_and,Bool.and_eq_true,beq_iff_eq]
 constructor
 ·rintro ⟨h1,h2⟩;exact ⟨h1.symm,h2.symm⟩
 ·rintro ⟨h1,h2⟩;exact ⟨h1.symm,h2.symm⟩
theorem it_old {l:List Ev} {s:It} (hs:ItOk l s) {e:Ev} (hx:l[s.j]? = some e) (hp:pubK e.kind=true) {i:Nat} (hM:s.m e.obj e.off=some i) (a b c d:Nat) (ha:a≤s.j+1) (hb:b≤s.j+1) (hc:c≤2*(s.j+1)) (hd:d≤s.j+1):ItOk l ⟨s.j+1,s.m,s.R.set i (atL l e.obj e.off s.j ++ [s.j]),a,b,c,d⟩:=by
 have h1:=(List.getElem?_eq_some_iff.1 hx).1
 have hil:=(List.getElem?_eq_some_iff.1 (hs.row _ _ _ hM)).1
 refine ⟨h1,by have:=hs.R;simp only [List.length_set];omega,fun o f i' h=>?_,fun o f h=>?_,hs.inj,ha,hb,hc,hd⟩
 ·simp only [List.getElem?_set]
  by_cases hof:o=e.obj∧f=e.off
  ·obtain ⟨rfl,rfl⟩:=hof
   rw [hM] at h
   cases h
   rw [if_pos rfl,if_pos hil,z3W hx,if_pos ((z3t hp _ _).2 ⟨rfl,rfl⟩)]
  ·have hne : ¬ i=i':=fun h'=>by subst h';exact hof (hs.inj _ _ _ _ _ h hM)
   rw [if_neg hne,z3W hx,if_neg (fun h'=>hof ((z3t hp _ _).1 h')),List.append_nil]
   exact hs.row o f i' h
 ·have hof : ¬ (o=e.obj∧f=e.off):=fun h'=>by rw [h'.1,h'.2,hM] at h;cases h
  rw [z3W hx,if_neg (fun h'=>hof ((z3t hp _ _).1 h')),List.append_nil]
  exact hs.none o f h
def updN (m:Int→Int→Option Nat) (o f:Int) (i:Nat):Int→Int→Option Nat:=fun x y=>if x=o∧y=f then some i else m x y
theorem it_new {l:List Ev} {s:It} (hs:ItOk l s) {e:Ev} (hx:l[s.j]? = some e) (hp:pubK e.kind=true) (hM:s.m e.obj e.off=none) (a b c d:Nat) (ha:a≤s.j+1) (hb:b≤s.j+1) (hc:c≤2*(s.j+1)) (hd:d≤s.j+1):ItOk l ⟨s.j+1,updN s.m e.obj e.off s.R.length,s.R ++ [[s.j]],a,b,c,d⟩:=by
 have h1:=(List.getElem?_eq_some_iff.1 hx).1
 have hlt : ∀ o f i,s.m o f=some i→i<s.R.length:=fun o f i h=>(List.getElem?_eq_some_iff.1 (hs.row o f i h)).1
 refine ⟨h1,by have:=hs.R;simp;omega,fun o f i' h=>?_,fun o f h=>?_,fun o f o' f' i h h'=>?_,ha,hb,hc,hd⟩
 ·simp only [updN] at h
  split at h
  ·rename_i hof
   obtain ⟨rfl,rfl⟩:=hof
   cases h
   rw [List.getElem?_append_right (Nat.le_refl _),Nat.sub_self,z3W hx,if_pos ((z3t hp _ _).2 ⟨rfl,rfl⟩),hs.none _ _ hM];rfl
  ·rename_i hof
   rw [List.getElem?_append_left (hlt o f i' h),z3W hx,if_neg (fun h'=>hof ((z3t hp _ _).1 h')),List.append_nil]
   exact hs.row o f i' h
 ·simp only [updN] at h
  split at h
  ·cases h
  ·rename_i hof
   rw [z3W hx,if_neg (fun h'=>hof ((z3t hp _ _).1 h')),List.append_nil]
   exact hs.none o f h
 ·simp only [updN] at h h'
  split at h
  ·rename_i hof
   cases h
   split at h'
   ·rename_i hof'
    exact ⟨hof.1.trans hof'.1.symm,hof.2.trans hof'.2.symm⟩
   ·have:=hlt _ _ _ h';omega
  ·split at h'
   ·cases h'
    have:=hlt _ _ _ h;omega
   ·exact hs.inj _ _ _ _ _ h h'
theorem atM_old {B:Nat} {l:List Ev} {s:It} (hs:ItOk l s) {o f:Int} {i:Nat} (hM:s.m o f=some i) (iO:inI o) (iF:inI f) :
  updA (fun k=>(updA (atM B s.m) (kyl o f) (some (.own (i+B))) k).map (AV.sub (i+B) .zH)) (kyl o f) (some (.own (i+B)))=atM B s.m:=by
 funext k
 unfold updA
 by_cases hk:k=kyl o f
 ·subst hk
  rw [if_pos rfl,atM,z7G _ iO iF,hM];rfl
 ·simp only [if_neg hk]
  unfold atM plA
  cases hu:unk k with
  | none=>rfl
  | some q =>
   have hq:=z8y hu
   have hne : ¬(q.1=o∧q.2=f):=fun ⟨h1,h2⟩=>hk (by rw [hq,h1,h2])
   simp only [Option.bind_some]
   cases hm:s.m q.1 q.2 with
   | none=>rfl
   | some i' =>
    have : ¬ i' = i:=fun h'=>by subst h';exact hne (hs.inj _ _ _ _ _ hm hM)
    simp only [Option.map_some,AV.sub]
    rw [if_neg (by omega)]
theorem atM_new {B:Nat} (hB:B=2000010) {l:List Ev} (hl:l.length≤1000000) {s:It} (hs:ItOk l s) {o f:Int} (x:AV) (iO:inI o) (iF:inI f) :
  (fun k=>(updA (updA (atM B s.m) (kyl o f) (some x)) (kyl o f) (some (.own 5000006)) k).map (AV.ren 5000006 (s.R.length+B)))=atM B (updN s.m o f s.R.length):=by
 funext k
 unfold updA
 by_cases hk:k=kyl o f
 ·subst hk
  rw [if_pos rfl,atM,z7G _ iO iF,updN,if_pos ⟨rfl,rfl⟩,Option.map_some,AV.z07,if_pos rfl];rfl
 ·rw [if_neg hk,if_neg hk]
  unfold atM plA
  cases hu:unk k with
  | none=>rfl
  | some q =>
   have hq:=z8y hu
   have hne : ¬(q.1=o∧q.2=f):=fun ⟨h1,h2⟩=>hk (by rw [hq,h1,h2])
   simp only [Option.bind_some,updN]
   rw [if_neg hne]
   cases hm:s.m q.1 q.2 with
   | none=>rfl
   | some i' =>
    have h1:=(List.getElem?_eq_some_iff.1 (hs.row _ _ _ hm)).1
    have h2:=hs.R
    have h3:=hs.j
    rw [Option.map_some,Option.map_some,AV.z07,if_neg (by omega),if_neg (by omega)]
theorem AO.ren_amap (t t' : Nat) (P:Program) (k n:Nat) (f:Lit→Option AV) (q:Option (Nat × Lit)):AO.ren t t' (.amap P k n f q) = .amap P k n (fun l=>(f l).map (AV.ren t t')) q:=rfl
theorem z1y (r:List Nat) (j:Nat):qL r ++ [[PV.val (.int .i64 (j:Int))]]=qL (r ++ [j]):=by simp [qL]
theorem rowsI_set (R:List (List Nat)) (i:Nat) (r:List Nat):List.set (List.map qL R) i (qL r)=List.map qL (R.set i r):=by rw [List.map_set]
theorem new_lk {B:Nat} (hB:B=2000010) {pre:Hp} (hp : ∀ p ∈ pre,5000000≤p.1) {R:List (List (List PV))} (hR:R.length≤1000000) (r:List (List PV)) (tl:Hp) (t:Nat) :
  List.lookup t (pre++(mat 3 1 B (R ++ [r])++tl))=List.lookup t ((R.length+B,.row 3 1 r) :: (pre++(mat 3 1 B R++tl))):=by
 by_cases h:t=R.length+B
 ·subst h
  have hn:pre.lookup (R.length+B)=none:=by
   cases hl:pre.lookup (R.length+B) with
   | none=>rfl
   | some o=>have:=hp _ (z02 hl);simp only at this;omega
  rw [zt,z09,hn,z09,z3y,List.getElem?_append_right (Nat.le_refl _),Nat.sub_self];rfl
 ·rw [zl h,z09,z09,z09,z09,z8r,z09,zl (by omega),qB,Option.or_none]
theorem hpI_new {B:Nat} (hB:B=2000010) (o0 o1 o2 o3:AO) {R:List (List Nat)} (hR:R.length≤1000000) (j:Nat) (tl:Hp) (t:Nat) :
  List.lookup t ((5000000,o0) :: (5000001,o1) :: (5000002,o2) :: (5000003,o3) :: (mat 3 1 B ((R ++ [[j]]).map qL)++tl))=List.lookup t ((R.length+B,.row 3 1 [[PV.val (.int .i64 (j:Int))]]) :: (5000000,o0) :: (5000001,o1) :: (5000002,o2) :: (5000003,o3) :: (mat 3 1 B (R.map qL)++tl)):=by
 have h:=new_lk hB (pre := [(5000000,o0),(5000001,o1),(5000002,o2),(5000003,o3)]) (fun p hp=>by
  simp only [List.mem_cons,List.not_mem_nil,or_false] at hp
  rcases hp with rfl|rfl|rfl|rfl <;> simp only [] <;> omega) (R:=R.map qL) (by rw [List.length_map];exact hR) (qL [j]) tl t
 rw [List.length_map] at h
 rw [List.map_append]
 exact h
theorem skip2 {t k a b:Nat} {x y z:AO} {L:Hp} (ha:t ≠ a) (hb:t ≠ b):List.lookup t ((k,x) :: (a,y) :: (b,z) :: L)=List.lookup t ((k,x) :: L):=by
 simp only [zC,if_neg ha,if_neg hb]
theorem lk_end {B:Nat} (hB:B=2000010) {t:Nat} (ht:t<2000000) (o0 o1 o2 o3:AO) (R:List (List (List PV))) (tl:Hp):List.lookup t ((5000000,o0) :: (5000001,o1) :: (5000002,o2) :: (5000003,o3) :: (mat 3 1 B R++tl))=tl.lookup t:=by
 rw [zl (by omega),zl (by omega),zl (by omega),zl (by omega),z09,z4k _ _ _ _ _ (by omega)];rfl
theorem rels_ok (B:Nat) (hB:B=2000010) (l:List Ev) (hl:l.length≤1000000) (hI : ∀ e ∈ l,inI e.g∧inI e.obj∧inI e.off∧(e.kind=14→inI e.k)) (H:List Ed→Hp) (hH : ∀ acc,HpOk 2000000 (H acc)) (y:Nat) (hy:y<2000000) (hv:Value) (hh : ∀ acc,∃ o,(H acc).lookup y=some o∧o.handle=some hv)
  (hyld : ∀ acc x,(∃ r,z0Z l l.length=acc++x :: r) → ∃ lr sp fr,(H acc).lookup y=some (.lrec lr sp fr)∧YldC Try.prog lr 2000000 (H acc) [.agg ((edC x).map .p)] fun hp' r=>hp' = H (acc ++ [x])∧r = .bool true) :
  MemC Try.prog 52 2000000 (H []) [.own y,.elt [.seq 9 (l.map evC)] 0] fun hp' r=>hp' = H (z0Z l l.length)∧r = .tup []:=by
 refine MemC.of Try.func52 rfl 190 rfl (by decide) ?_;simp only [z0X,zh]
 have hy4:y<5000004:=by omega
 have hy6:y<5000006:=by omega
 have hy7:y<5000007:=by omega
 refine T.weak (zm.upN _ 5000000 (by simp)) ?_
 repeat' (first|refine T.zi fun K hK=>?_|refine T.block ?_|(refine T.reg (by kernel_rfl) fun K' hK'=>?_;simp only [za,zh,List.map_cons,List.map_nil];(repeat' (first|(with_reducible refine WL.fin ?_;refine hK' _ ?_;clear hK' K')|((with_reducible refine WL.step fun K2 hK2=>?_);simp only [simprocAttr,implies_true,amz,tys];(repeat' with_reducible (first|(refine hK2 _ ?_;clear hK2 K2)|refine And.intro ?_ ?_|intro hb))))))|refine T.skip ?_|refine T.exit ?_|refine T.ze rfl ?_|refine T.zf rfl ?_|refine T.cond rfl (fun hc=>?_) (fun hc=>?_)|refine T.ret ?_|simp only [zb,z8,reduceIte,Nat.reduceEqDiff]|((repeat ((fail_if_success (refine hK _ ?_));clear hK K));refine hK _ ?_;clear hK K))
 refine T.weak (zm.toM _ 5000002 none Try.prog 85 0 (by simp only [zC,Nat.reduceEqDiff,reduceIte])) ?_
 simp only [zM,List.map_cons,List.map_nil,Nat.reduceEqDiff,reduceIte,(hH []).set,Nat.reduceLeDiff]
 refine T.zI (fun s:It=>⟨[(0,.own y),(1,.elt [.seq 9 (l.map evC)] 0),(3,.own 5000000),(4,.own 5000001),(5,.own 5000002),(6,.own 5000003),(25,.p (.seq 9 (l.map evC))),(26,.int l.length),(27,.int s.j)],hpI B l s (H (z0Z l s.j)),190,5000004⟩) (ItOk l) (fun s=>l.length-s.j) ⟨0,fun _ _=>none,[],0,0,0,0⟩ ?_ ?_ ?_
 ·exact ⟨Nat.zero_le _,Nat.zero_le _,fun o f i h=>(by cases h),fun o f _=>rfl,fun o f o' f' i h=>(by cases h),Nat.le_refl _,Nat.le_refl _,Nat.zero_le _,Nat.le_refl _⟩
 ·refine zm.frm _ _ _ _ (fun t=>?_) (by simp only [wks,reduceIte,Nat.reduceEqDiff,implies_true,and_self,Int.natCast_zero,hy4]) (by simp only [wks,AV.okB,Nat.reduceLT,decide_true,List.all_cons,List.all_nil,Bool.and_self,Int.natCast_zero,hy4]) ?_
  ·have e1:(inM nI fun g=>z0y l (fun d=>d.g==g) 0)=fun _=>none:=z8d nI
   have e2:(inM nI fun g=>z0y l (z0T g) 0)=fun _=>none:=z8d nI
   have e3:atM B (fun _ _=>none)=fun _=>none:=plA_none
   have e4:(plM nI fun o f=>z0y l (wrAt o f) 0)=fun _=>none:=zaf nI
   simp only [hpI,e1,e2,e3,e4,List.map_nil,mat,List.nil_append,z0Z,zC]
   repeat' split
   all_goals first|rfl|omega
  ·exact z2h hB hl ⟨Nat.zero_le _,Nat.zero_le _,fun o f i h=>(by cases h),fun o f _=>rfl,fun o f o' f' i h=>(by cases h),Nat.le_refl _,Nat.le_refl _,Nat.zero_le _,Nat.le_refl _⟩ (hH _)
 intro s hs KL hKL
 have hR:(s.R.map qL).length≤1000000:=by have:=hs.R;have:=hs.j;simp;omega
 have ht:=hH (z0Z l s.j)
 by_cases hlt:s.j<l.length
 ·obtain ⟨e,hx⟩:=zF hlt
  have hd:decide ((s.j:Int)<(l.length:Int))=true:=by simpa using hlt
  simp only [hpI]
  obtain ⟨rest,hrest⟩ : ∃ r,z0Z l l.length=z0Z l s.j++(z4Q l e s.j++(z2g l e s.j (atL l e.obj e.off s.j)++(z3K l e s.j++r))):=by
   obtain ⟨r,hr⟩:=z96 (l:=l) l.length (s.j+1) (by omega)
   exact ⟨r,by rw [hr,z4J hx,z5u];simp only [List.append_assoc]⟩
  obtain ⟨acc,hacc⟩ : ∃ acc,acc=z0Z l s.j:=⟨_,rfl⟩
  rw [← hacc] at hrest ht ⊢
  obtain ⟨iG,iO,iF,iK⟩:=hI e (List.mem_of_getElem? hx)
  repeat' (first|refine T.zi fun K hK=>?_|refine T.block ?_|refine T.skip ?_|refine T.exit ?_|refine T.ze rfl ?_|refine T.zf rfl ?_|refine T.cond rfl (fun hc=>?_) (fun hc=>?_)|refine T.ret ?_|simp only [zb,z8,reduceIte,Nat.reduceEqDiff]|((repeat ((fail_if_success (refine hK _ ?_));clear hK K));refine hK _ ?_;clear hK K))
  (refine T.reg (by kernel_rfl) fun K' hK'=>?_;simp only [za,zh,List.map_cons,List.map_nil];(repeat' (first|(with_reducible refine WL.fin ?_;refine hK' _ ?_;clear hK' K')|((with_reducible refine WL.step fun K2 hK2=>?_);simp only [simprocAttr,implies_true,amz,tys,hx,hd,evC,qc hB hR ht,z10 hB hR ht,hR];(repeat' with_reducible (first|(refine hK2 _ ?_;clear hK2 K2)|refine And.intro ?_ ?_|intro hb)))));all_goals ((try simp only [zb,z8,reduceIte,Nat.reduceEqDiff]);(try ((repeat ((fail_if_success (refine hK _ ?_));clear hK K));refine hK _ ?_;clear hK K))))
  repeat' (first|refine T.zi fun K hK=>?_|refine T.block ?_|refine T.skip ?_|refine T.exit ?_|refine T.ze rfl ?_|refine T.zf rfl ?_|refine T.cond rfl (fun hc=>?_) (fun hc=>?_)|refine T.ret ?_|simp only [zb,z8,reduceIte,Nat.reduceEqDiff]|((repeat ((fail_if_success (refine hK _ ?_));clear hK K));refine hK _ ?_;clear hK K))
  (refine T.reg (by kernel_rfl) fun K' hK'=>?_;simp only [za,zh,List.map_cons,List.map_nil];(repeat' (first|(with_reducible refine WL.fin ?_;refine hK' _ ?_;clear hK' K')|((with_reducible refine WL.step fun K2 hK2=>?_);simp only [simprocAttr,implies_true,amz,tys,hx,hd,evC,qc hB hR ht,z10 hB hR ht,hR];(repeat' with_reducible (first|(refine hK2 _ ?_;clear hK2 K2)|refine And.intro ?_ ?_|intro hb)))));all_goals ((try simp only [zb,z8,reduceIte,Nat.reduceEqDiff]);(try ((repeat ((fail_if_success (refine hK _ ?_));clear hK K));refine hK _ ?_;clear hK K))))
  repeat' (first|refine T.zi fun K hK=>?_|refine T.block ?_|refine T.skip ?_|refine T.exit ?_|refine T.ze rfl ?_|refine T.zf rfl ?_|refine T.cond rfl (fun hc=>?_) (fun hc=>?_)|refine T.ret ?_|simp only [zb,z8,reduceIte,Nat.reduceEqDiff]|((repeat ((fail_if_success (refine hK _ ?_));clear hK K));refine hK _ ?_;clear hK K))
  (refine T.reg (by kernel_rfl) fun K' hK'=>?_;simp only [za,zh,List.map_cons,List.map_nil];(repeat' (first|(with_reducible refine WL.fin ?_;refine hK' _ ?_;clear hK' K')|((with_reducible refine WL.step fun K2 hK2=>?_);simp only [simprocAttr,implies_true,amz,tys,hx,hd,evC,qc hB hR ht,z10 hB hR ht,hR];(repeat' with_reducible (first|(refine hK2 _ ?_;clear hK2 K2)|refine And.intro ?_ ?_|intro hb)))));all_goals ((try simp only [zb,z8,reduceIte,Nat.reduceEqDiff]);(try ((repeat ((fail_if_success (refine hK _ ?_));clear hK K));refine hK _ ?_;clear hK K))))
  refine T.zi fun K hK=>?_
  suffices hmid : ∀ s',zm s' ⟨frI l y s.j,ownI B l e s++H (acc++z4Q l e s.j),190,5000006⟩→K s' by
   clear hK
   have hK:=hmid
   clear hmid
   cases hA:z0y l (fun d=>d.g==e.g) s.j with
   | some i =>
    have hrA:z4Q l e s.j = [⟨i,s.j,0⟩]:=by rw [z4Q,hA]
    rw [hrA] at hK hrest
    obtain ⟨lr,sp,fr0,hlk0,hyc0⟩:=hyld acc ⟨i,s.j,0⟩ ⟨_,hrest⟩
    simp only [edC,List.map_cons,List.map_nil] at hyc0
    repeat' (first|refine T.zi fun K hK=>?_|refine T.block ?_|refine T.skip ?_|refine T.exit ?_|refine T.ze rfl ?_|refine T.zf rfl ?_|refine T.cond rfl (fun hc=>?_) (fun hc=>?_)|refine T.ret ?_|simp only [zb,z8,reduceIte,Nat.reduceEqDiff]|((repeat ((fail_if_success (refine hK _ ?_));clear hK K));refine hK _ ?_;clear hK K))
    (refine T.reg (by kernel_rfl) fun K' hK'=>?_;simp only [za,zh,List.map_cons,List.map_nil];(repeat' (first|(with_reducible refine WL.fin ?_;refine hK' _ ?_;clear hK' K')|((with_reducible refine WL.step fun K2 hK2=>?_);simp only [simprocAttr,implies_true,amz,tys,hA,z0r,z0l iG,z7y,nI,qc hB hR ht,z10 hB hR ht,hR,Option.isSome_some];(repeat' with_reducible (first|(refine hK2 _ ?_;clear hK2 K2)|refine And.intro ?_ ?_|intro hb)))));all_goals ((try simp only [zb,z8,reduceIte,Nat.reduceEqDiff]);(try ((repeat ((fail_if_success (refine hK _ ?_));clear hK K));refine hK _ ?_;clear hK K))))
    repeat' (first|refine T.zi fun K hK=>?_|refine T.block ?_|refine T.skip ?_|refine T.exit ?_|refine T.ze rfl ?_|refine T.zf rfl ?_|refine T.cond rfl (fun hc=>?_) (fun hc=>?_)|refine T.ret ?_|simp only [zb,z8,reduceIte,Nat.reduceEqDiff]|((repeat ((fail_if_success (refine hK _ ?_));clear hK K));refine hK _ ?_;clear hK K))
    (refine T.reg (by kernel_rfl) fun K' hK'=>?_;simp only [za,zh,List.map_cons,List.map_nil];(repeat' (first|(with_reducible refine WL.fin ?_;refine hK' _ ?_;clear hK' K')|((with_reducible refine WL.step fun K2 hK2=>?_);simp only [simprocAttr,implies_true,amz,tys];(repeat' with_reducible (first|(refine hK2 _ ?_;clear hK2 K2)|refine And.intro ?_ ?_|intro hb)))));all_goals ((try simp only [zb,z8,reduceIte,Nat.reduceEqDiff]);(try ((repeat ((fail_if_success (refine hK _ ?_));clear hK K));refine hK _ ?_;clear hK K))))
    repeat' (first|refine T.zi fun K hK=>?_|refine T.block ?_|refine T.skip ?_|refine T.exit ?_|refine T.ze rfl ?_|refine T.zf rfl ?_|refine T.cond rfl (fun hc=>?_) (fun hc=>?_)|refine T.ret ?_|simp only [zb,z8,reduceIte,Nat.reduceEqDiff]|((repeat ((fail_if_success (refine hK _ ?_));clear hK K));refine hK _ ?_;clear hK K))
    refine T.regI (by kernel_rfl) fun K' hK'=>?_;simp only [List.map_cons,List.map_nil]
    iterate 4 ((with_reducible refine WLI.z1a fun K2 hK2=>?_);simp only [simprocAttr,implies_true,amz,tys];(repeat' (first|with_reducible (first|(refine hK2 _ ?_;clear hK2 K2)|refine And.intro ?_ ?_|intro hb))))
    (with_reducible refine WLI.z9N fun K2 hK2=>?_);simp only [WSY,WY,simprocAttr,implies_true,amz,tys];(refine z6S.of 2000000 (ownI B l e s) (H (acc)) (H (acc ++ [⟨i,s.j,0⟩])) _ _ _ rfl (z1S hB _ _ _) ?_ (hH _) hyc0 hlk0 (z9n hh _ _) (by decide) (by simp [AV.okB,AV.qx]) ?_);(focus (simp only [z2Y hB,List.map_cons,AO.z3g,AV.qH,List.map_nil,evC];done));refine hK2 _ ?_;clear hK2 K2;(refine WLI.weak (zm.hpe _ (ownI B l e s++H (acc ++ [⟨i,s.j,0⟩])) (z5l (z1S hB _ _ _) (hH _))) ?_);simp only [List.map_cons,List.map_nil,AV.qf,AV.qd,AV.zS,AV.qp,AV.qH,AV.ql,AV.zP,AV.zT,AV.qD,AV.qm,AV.qj,Nat.reduceLeDiff,true_or,reduceIte,List.mem_singleton,or_true,ownI,List.cons_append,zD,tys]
    (with_reducible refine WLI.z1a fun K2 hK2=>?_);simp only [simprocAttr,implies_true,amz,tys];(repeat' (first|with_reducible (first|(refine hK2 _ ?_;clear hK2 K2)|refine And.intro ?_ ?_|intro hb)))
    (with_reducible refine WLI.fin ?_);refine hK' _ ?_;clear hK' K';(try simp only [zb,z8,reduceIte,Nat.reduceEqDiff]);(try ((repeat ((fail_if_success (refine hK _ ?_));clear hK K));refine hK _ ?_;clear hK K))
    repeat' (first|refine T.zi fun K hK=>?_|refine T.block ?_|(refine T.reg (by kernel_rfl) fun K' hK'=>?_;simp only [za,zh,List.map_cons,List.map_nil];(repeat' (first|(with_reducible refine WL.fin ?_;refine hK' _ ?_;clear hK' K')|((with_reducible refine WL.step fun K2 hK2=>?_);simp only [simprocAttr,implies_true,amz,tys];(repeat' with_reducible (first|(refine hK2 _ ?_;clear hK2 K2)|refine And.intro ?_ ?_|intro hb))))))|refine T.skip ?_|refine T.exit ?_|refine T.ze rfl ?_|refine T.zf rfl ?_|refine T.cond rfl (fun hc=>?_) (fun hc=>?_)|refine T.ret ?_|simp only [zb,z8,reduceIte,Nat.reduceEqDiff]|((repeat ((fail_if_success (refine hK _ ?_));clear hK K));refine hK _ ?_;clear hK K))
    refine zm.frm _ _ _ _ (fun t=>?_) (by simp only [wks,reduceIte,Nat.reduceEqDiff,implies_true,and_self,frI,hy6,]) (by simp only [wks,AV.okB,Nat.reduceLT,decide_true,List.all_cons,List.all_nil,Bool.and_self,frI,hy6,]) ?_;(focus (first|rfl|(simp only [ownI,List.cons_append];done)));exact z0H hB hl hs (hH _)
   | none =>
    cases hS:z0y l (z0T e.g) s.j with
    | some i =>
     have hrA:z4Q l e s.j = [⟨i,s.j,e.kind⟩]:=by rw [z4Q,hA,hS]
     rw [hrA] at hK hrest
     obtain ⟨lr,sp,fr0,hlk0,hyc0⟩:=hyld acc ⟨i,s.j,e.kind⟩ ⟨_,hrest⟩
     simp only [edC,List.map_cons,List.map_nil] at hyc0
     repeat' (first|refine T.zi fun K hK=>?_|refine T.block ?_|refine T.skip ?_|refine T.exit ?_|refine T.ze rfl ?_|refine T.zf rfl ?_|refine T.cond rfl (fun hc=>?_) (fun hc=>?_)|refine T.ret ?_|simp only [zb,z8,reduceIte,Nat.reduceEqDiff]|((repeat ((fail_if_success (refine hK _ ?_));clear hK K));refine hK _ ?_;clear hK K))
     (refine T.reg (by kernel_rfl) fun K' hK'=>?_;simp only [za,zh,List.map_cons,List.map_nil];(repeat' (first|(with_reducible refine WL.fin ?_;refine hK' _ ?_;clear hK' K')|((with_reducible refine WL.step fun K2 hK2=>?_);simp only [simprocAttr,implies_true,amz,tys,hA,z0r,z0l iG,z7y,nI,qc hB hR ht,z10 hB hR ht,Option.isSome_none];(repeat' with_reducible (first|(refine hK2 _ ?_;clear hK2 K2)|refine And.intro ?_ ?_|intro hb)))));all_goals ((try simp only [zb,z8,reduceIte,Nat.reduceEqDiff]);(try ((repeat ((fail_if_success (refine hK _ ?_));clear hK K));refine hK _ ?_;clear hK K))))
     repeat' (first|refine T.zi fun K hK=>?_|refine T.block ?_|refine T.skip ?_|refine T.exit ?_|refine T.ze rfl ?_|refine T.zf rfl ?_|refine T.cond rfl (fun hc=>?_) (fun hc=>?_)|refine T.ret ?_|simp only [zb,z8,reduceIte,Nat.reduceEqDiff]|((repeat ((fail_if_success (refine hK _ ?_));clear hK K));refine hK _ ?_;clear hK K))
     (refine T.reg (by kernel_rfl) fun K' hK'=>?_;simp only [za,zh,List.map_cons,List.map_nil];(repeat' (first|(with_reducible refine WL.fin ?_;refine hK' _ ?_;clear hK' K')|((with_reducible refine WL.step fun K2 hK2=>?_);simp only [simprocAttr,implies_true,amz,tys];(repeat' with_reducible (first|(refine hK2 _ ?_;clear hK2 K2)|refine And.intro ?_ ?_|intro hb)))));all_goals ((try simp only [zb,z8,reduceIte,Nat.reduceEqDiff]);(try ((repeat ((fail_if_success (refine hK _ ?_));clear hK K));refine hK _ ?_;clear hK K))))
     repeat' (first|refine T.zi fun K hK=>?_|refine T.block ?_|refine T.skip ?_|refine T.exit ?_|refine T.ze rfl ?_|refine T.zf rfl ?_|refine T.cond rfl (fun hc=>?_) (fun hc=>?_)|refine T.ret ?_|simp only [zb,z8,reduceIte,Nat.reduceEqDiff]|((repeat ((fail_if_success (refine hK _ ?_));clear hK K));refine hK _ ?_;clear hK K))
     (refine T.reg (by kernel_rfl) fun K' hK'=>?_;simp only [za,zh,List.map_cons,List.map_nil];(repeat' (first|(with_reducible refine WL.fin ?_;refine hK' _ ?_;clear hK' K')|((with_reducible refine WL.step fun K2 hK2=>?_);simp only [simprocAttr,implies_true,amz,tys,hS,z0r,z0l iG,z7y,nI,qc hB hR ht,z10 hB hR ht,Option.isSome_some];(repeat' with_reducible (first|(refine hK2 _ ?_;clear hK2 K2)|refine And.intro ?_ ?_|intro hb)))));all_goals ((try simp only [zb,z8,reduceIte,Nat.reduceEqDiff]);(try ((repeat ((fail_if_success (refine hK _ ?_));clear hK K));refine hK _ ?_;clear hK K))))
     repeat' (first|refine T.zi fun K hK=>?_|refine T.block ?_|refine T.skip ?_|refine T.exit ?_|refine T.ze rfl ?_|refine T.zf rfl ?_|refine T.cond rfl (fun hc=>?_) (fun hc=>?_)|refine T.ret ?_|simp only [zb,z8,reduceIte,Nat.reduceEqDiff]|((repeat ((fail_if_success (refine hK _ ?_));clear hK K));refine hK _ ?_;clear hK K))
     (refine T.reg (by kernel_rfl) fun K' hK'=>?_;simp only [za,zh,List.map_cons,List.map_nil];(repeat' (first|(with_reducible refine WL.fin ?_;refine hK' _ ?_;clear hK' K')|((with_reducible refine WL.step fun K2 hK2=>?_);simp only [simprocAttr,implies_true,amz,tys];(repeat' with_reducible (first|(refine hK2 _ ?_;clear hK2 K2)|refine And.intro ?_ ?_|intro hb)))));all_goals ((try simp only [zb,z8,reduceIte,Nat.reduceEqDiff]);(try ((repeat ((fail_if_success (refine hK _ ?_));clear hK K));refine hK _ ?_;clear hK K))))
     repeat' (first|refine T.zi fun K hK=>?_|refine T.block ?_|refine T.skip ?_|refine T.exit ?_|refine T.ze rfl ?_|refine T.zf rfl ?_|refine T.cond rfl (fun hc=>?_) (fun hc=>?_)|refine T.ret ?_|simp only [zb,z8,reduceIte,Nat.reduceEqDiff]|((repeat ((fail_if_success (refine hK _ ?_));clear hK K));refine hK _ ?_;clear hK K))
     refine T.regI (by kernel_rfl) fun K' hK'=>?_;simp only [List.map_cons,List.map_nil]
     iterate 6 ((with_reducible refine WLI.z1a fun K2 hK2=>?_);simp only [simprocAttr,implies_true,amz,tys];(repeat' (first|with_reducible (first|(refine hK2 _ ?_;clear hK2 K2)|refine And.intro ?_ ?_|intro hb))))
     (with_reducible refine WLI.z9N fun K2 hK2=>?_);simp only [WSY,WY,simprocAttr,implies_true,amz,tys];(refine z6S.of 2000000 (ownI B l e s) (H (acc)) (H (acc ++ [⟨i,s.j,e.kind⟩])) _ _ _ rfl (z1S hB _ _ _) ?_ (hH _) hyc0 hlk0 (z9n hh _ _) (by decide) (by simp [AV.okB,AV.qx]) ?_);(focus (simp only [z2Y hB,List.map_cons,AO.z3g,AV.qH,List.map_nil,evC];done));refine hK2 _ ?_;clear hK2 K2;(refine WLI.weak (zm.hpe _ (ownI B l e s++H (acc ++ [⟨i,s.j,e.kind⟩])) (z5l (z1S hB _ _ _) (hH _))) ?_);simp only [List.map_cons,List.map_nil,AV.qf,AV.qd,AV.zS,AV.qp,AV.qH,AV.ql,AV.zP,AV.zT,AV.qD,AV.qm,AV.qj,Nat.reduceLeDiff,true_or,reduceIte,List.mem_singleton,or_true,ownI,List.cons_append,zD,tys]
     (with_reducible refine WLI.z1a fun K2 hK2=>?_);simp only [simprocAttr,implies_true,amz,tys];(repeat' (first|with_reducible (first|(refine hK2 _ ?_;clear hK2 K2)|refine And.intro ?_ ?_|intro hb)))
     (with_reducible refine WLI.fin ?_);refine hK' _ ?_;clear hK' K';(try simp only [zb,z8,reduceIte,Nat.reduceEqDiff]);(try ((repeat ((fail_if_success (refine hK _ ?_));clear hK K));refine hK _ ?_;clear hK K))
     repeat' (first|refine T.zi fun K hK=>?_|refine T.block ?_|(refine T.reg (by kernel_rfl) fun K' hK'=>?_;simp only [za,zh,List.map_cons,List.map_nil];(repeat' (first|(with_reducible refine WL.fin ?_;refine hK' _ ?_;clear hK' K')|((with_reducible refine WL.step fun K2 hK2=>?_);simp only [simprocAttr,implies_true,amz,tys];(repeat' with_reducible (first|(refine hK2 _ ?_;clear hK2 K2)|refine And.intro ?_ ?_|intro hb))))))|refine T.skip ?_|refine T.exit ?_|refine T.ze rfl ?_|refine T.zf rfl ?_|refine T.cond rfl (fun hc=>?_) (fun hc=>?_)|refine T.ret ?_|simp only [zb,z8,reduceIte,Nat.reduceEqDiff]|((repeat ((fail_if_success (refine hK _ ?_));clear hK K));refine hK _ ?_;clear hK K))
     refine zm.frm _ _ _ _ (fun t=>?_) (by simp only [wks,reduceIte,Nat.reduceEqDiff,implies_true,and_self,frI,hy6,]) (by simp only [wks,AV.okB,Nat.reduceLT,decide_true,List.all_cons,List.all_nil,Bool.and_self,frI,hy6,]) ?_;(focus (first|rfl|(simp only [ownI,List.cons_append];done)));exact z0H hB hl hs (hH _)
    | none =>
     have hrA:z4Q l e s.j = []:=by rw [z4Q,hA,hS]
     rw [hrA,List.append_nil] at hK
     repeat' (first|refine T.zi fun K hK=>?_|refine T.block ?_|(refine T.reg (by kernel_rfl) fun K' hK'=>?_;simp only [za,zh,List.map_cons,List.map_nil];(repeat' (first|(with_reducible refine WL.fin ?_;refine hK' _ ?_;clear hK' K')|((with_reducible refine WL.step fun K2 hK2=>?_);simp only [simprocAttr,implies_true,amz,tys,hA,hS,z0r,z0l iG,z7y,nI,qc hB hR ht,z10 hB hR ht,Option.isSome_none];(repeat' with_reducible (first|(refine hK2 _ ?_;clear hK2 K2)|refine And.intro ?_ ?_|intro hb))))))|refine T.skip ?_|refine T.exit ?_|refine T.ze rfl ?_|refine T.zf rfl ?_|refine T.cond rfl (fun hc=>?_) (fun hc=>?_)|refine T.ret ?_|simp only [zb,z8,reduceIte,Nat.reduceEqDiff]|((repeat ((fail_if_success (refine hK _ ?_));clear hK K));refine hK _ ?_;clear hK K))
     refine zm.frm _ _ _ _ (fun t=>?_) (by simp only [wks,reduceIte,Nat.reduceEqDiff,implies_true,and_self,frI,hy6,]) (by simp only [wks,AV.okB,Nat.reduceLT,decide_true,List.all_cons,List.all_nil,Bool.and_self,frI,hy6,]) ?_;(focus (first|rfl|(simp only [ownI,List.cons_append];done)));exact z0H hB hl hs (hH _)
  intro s' hw
  refine hK s' ?_
  refine T.weak hw ?_
  clear hK hw s' K ht
  obtain ⟨acc1,hacc1⟩ : ∃ a,a=acc++z4Q l e s.j:=⟨_,rfl⟩
  rw [← hacc1]
  rw [← List.append_assoc,← hacc1] at hrest
  have ht:=hH acc1
  refine T.zi fun K hK=>?_
  suffices hmid : ∀ s',zm s' ⟨frI l y s.j,ownI B l e s++H (acc1++z2g l e s.j (atL l e.obj e.off s.j)),190,5000006⟩→K s' by
   clear hK
   have hK:=hmid
   clear hmid
   simp only [frI,ownI,List.cons_append]
   cases hM:s.m e.obj e.off with
   | none =>
    have hrI:z2g l e s.j (atL l e.obj e.off s.j) = []:=by rw [hs.none _ _ hM];rfl
    rw [hrI,List.append_nil] at hK
    have hat:atM B s.m (kyl e.obj e.off)=none:=by rw [atM,z7G _ iO iF,hM];rfl
    repeat' (first|refine T.zi fun K hK=>?_|refine T.block ?_|(refine T.reg (by kernel_rfl) fun K' hK'=>?_;simp only [za,zh,List.map_cons,List.map_nil];(repeat' (first|(with_reducible refine WL.fin ?_;refine hK' _ ?_;clear hK' K')|((with_reducible refine WL.step fun K2 hK2=>?_);simp only [simprocAttr,implies_true,amz,tys,z2q,z2o iO iF,hat,qc hB hR ht,z10 hB hR ht];(repeat' with_reducible (first|(refine hK2 _ ?_;clear hK2 K2)|refine And.intro ?_ ?_|intro hb))))))|refine T.skip ?_|refine T.exit ?_|refine T.ze rfl ?_|refine T.zf rfl ?_|refine T.cond rfl (fun hc=>?_) (fun hc=>?_)|refine T.ret ?_|simp only [zb,z8,reduceIte,Nat.reduceEqDiff]|((repeat ((fail_if_success (refine hK _ ?_));clear hK K));refine hK _ ?_;clear hK K))
    refine T.zI (fun q:Nat=>⟨frI l y s.j ++ [(70,.int 0),(71,.int 0)],ownI B l e s++H acc1,190,5000006⟩) (fun q=>q=0) (fun q => 0) 0 rfl (by refine zm.frm _ _ _ _ (fun t=>?_) (by simp only [wks,reduceIte,Nat.reduceEqDiff,implies_true,and_self,frI,hy6,List.cons_append,List.nil_append]) (by simp only [wks,AV.okB,Nat.reduceLT,decide_true,List.all_cons,List.all_nil,Bool.and_self,frI,hy6,List.cons_append,List.nil_append]) ?_;(focus (first|rfl|(simp only [ownI,List.cons_append];done)));exact z0H hB hl hs (hH _)) ?_
    rintro q rfl KL hKL
    simp only [frI,ownI,List.cons_append,List.nil_append]
    have hd0:decide ((0:Int)<0)=false:=by decide
    repeat' (first|refine T.zi fun K hK=>?_|refine T.block ?_|(refine T.reg (by kernel_rfl) fun K' hK'=>?_;simp only [za,zh,List.map_cons,List.map_nil];(repeat' (first|(with_reducible refine WL.fin ?_;refine hK' _ ?_;clear hK' K')|((with_reducible refine WL.step fun K2 hK2=>?_);simp only [simprocAttr,implies_true,amz,tys,hd0];(repeat' with_reducible (first|(refine hK2 _ ?_;clear hK2 K2)|refine And.intro ?_ ?_|intro hb))))))|refine T.skip ?_|refine T.exit ?_|refine T.ze rfl ?_|refine T.zf rfl ?_|refine T.cond rfl (fun hc=>?_) (fun hc=>?_)|refine T.ret ?_|simp only [zb,z8,reduceIte,Nat.reduceEqDiff]|((repeat ((fail_if_success (refine hK _ ?_));clear hK K));refine hK _ ?_;clear hK K))
    refine zm.frm _ _ _ _ (fun t=>?_) (by simp only [wks,reduceIte,Nat.reduceEqDiff,implies_true,and_self,frI,hy6,]) (by simp only [wks,AV.okB,Nat.reduceLT,decide_true,List.all_cons,List.all_nil,Bool.and_self,frI,hy6,]) ?_;(focus (first|rfl|(simp only [ownI,List.cons_append];done)));exact z0H hB hl hs (hH _)
   | some i =>
    obtain ⟨r,hr⟩ : ∃ r,r=atL l e.obj e.off s.j:=⟨_,rfl⟩
    have hrow:=hs.row _ _ _ hM
    rw [← hr] at hrow hK
    have hrw:=tl_row (B:=B) ht (z8u hrow)
    have hat:atM B s.m (kyl e.obj e.off)=some (.own (i+B)):=by rw [atM,z7G _ iO iF,hM];rfl
    have hi6:i<1000000:=by have:=(List.getElem?_eq_some_iff.1 hrow).1;have:=hs.R;have:=hs.j;omega
    have n0:(i+B=5000000)=False:=by simp;omega
    have n1:(i+B=5000001)=False:=by simp;omega
    have n2:(i+B=5000002)=False:=by simp;omega
    have n3:(i+B=5000003)=False:=by simp;omega
    have n4:(i+B=5000004)=False:=by simp;omega
    have n5:(i+B=5000005)=False:=by simp;omega
    have n6:(i+B=5000006)=False:=by simp;omega
    have hi7:(i+B<5000006)=True:=by simp;omega
    have hi8:(i+B<5000007)=True:=by simp;omega
    have hiB:(2000000≤i+B)=True:=by simp;omega
    have hrn:r.length≤1000000:=by
     rw [hr]
     have:=List.length_filter_le (fun k=>(l[k]?).any (z5y e.obj e.off)) (List.range s.j)
     rw [List.length_range] at this
     have h2:=hs.j
     unfold atL
     omega
    repeat' (first|refine T.zi fun K hK=>?_|refine T.block ?_|(refine T.reg (by kernel_rfl) fun K' hK'=>?_;simp only [za,zh,List.map_cons,List.map_nil];(repeat' (first|(with_reducible refine WL.fin ?_;refine hK' _ ?_;clear hK' K')|((with_reducible refine WL.step fun K2 hK2=>?_);simp only [simprocAttr,implies_true,amz,tys,z2q,z2o iO iF,hat,qc hB hR ht,z10 hB hR ht,hrw,z06,n0,n1,n2,n3,n4,n5,n6];(repeat' with_reducible (first|(refine hK2 _ ?_;clear hK2 K2)|refine And.intro ?_ ?_|intro hb))))))|refine T.skip ?_|refine T.exit ?_|refine T.ze rfl ?_|refine T.zf rfl ?_|refine T.cond rfl (fun hc=>?_) (fun hc=>?_)|refine T.ret ?_|simp only [zb,z8,reduceIte,Nat.reduceEqDiff]|((repeat ((fail_if_success (refine hK _ ?_));clear hK K));refine hK _ ?_;clear hK K))
    refine T.zI (fun q:Nat=>⟨frI l y s.j ++ [(69,.own (i+B)),(70,.int r.length),(71,.int q)],ownI B l e s++H (acc1++z2g l e s.j (r.take q)),190,5000006⟩) (fun q=>q≤r.length) (fun q=>r.length-q) 0 (Nat.zero_le _) ?_ ?_
    ·have h0:acc1++z2g l e s.j (r.take 0)=acc1:=by simp [z2g]
     simp only [h0]
     refine zm.frm _ _ _ _ (fun t=>?_) (by simp only [wks,reduceIte,Nat.reduceEqDiff,implies_true,and_self,frI,hy6,hi7,List.cons_append,List.nil_append,Int.natCast_zero]) (by simp only [wks,AV.okB,Nat.reduceLT,decide_true,List.all_cons,List.all_nil,Bool.and_self,frI,hy6,hi7,List.cons_append,List.nil_append,Int.natCast_zero]) ?_;(focus (first|rfl|(simp only [ownI,List.cons_append];done)));exact z0H hB hl hs (hH _)
    intro q hq KL hKL
    obtain ⟨acc2,hacc2⟩ : ∃ a,a=acc1++z2g l e s.j (r.take q):=⟨_,rfl⟩
    rw [← hacc2]
    have ht2:=hH acc2
    have hrw2:=tl_row (B:=B) ht2 (z8u hrow)
    simp only [frI,ownI,List.cons_append,List.nil_append]
    by_cases hqr:q<r.length
    ·have hdq:decide ((q:Int)<(r.length:Int))=true:=by simpa using hqr
     obtain ⟨ii,hii⟩:=zF hqr
     obtain ⟨hij,_⟩:=atL_mem (hr ▸ List.mem_of_getElem? hii)
     obtain ⟨f,hf⟩:=zF (show ii<l.length by omega)
     have hrat:=z4B hii
     repeat' (first|refine T.zi fun K hK=>?_|refine T.block ?_|refine T.skip ?_|refine T.exit ?_|refine T.ze rfl ?_|refine T.zf rfl ?_|refine T.cond rfl (fun hc=>?_) (fun hc=>?_)|refine T.ret ?_|simp only [zb,z8,reduceIte,Nat.reduceEqDiff]|((repeat ((fail_if_success (refine hK _ ?_));clear hK K));refine hK _ ?_;clear hK K))
     (refine T.reg (by kernel_rfl) fun K' hK'=>?_;simp only [za,zh,List.map_cons,List.map_nil];(repeat' (first|(with_reducible refine WL.fin ?_;refine hK' _ ?_;clear hK' K')|((with_reducible refine WL.step fun K2 hK2=>?_);simp only [simprocAttr,implies_true,amz,tys,hdq];(repeat' with_reducible (first|(refine hK2 _ ?_;clear hK2 K2)|refine And.intro ?_ ?_|intro hb)))));all_goals ((try simp only [zb,z8,reduceIte,Nat.reduceEqDiff]);(try ((repeat ((fail_if_success (refine hK _ ?_));clear hK K));refine hK _ ?_;clear hK K))))
     repeat' (first|refine T.zi fun K hK=>?_|refine T.block ?_|refine T.skip ?_|refine T.exit ?_|refine T.ze rfl ?_|refine T.zf rfl ?_|refine T.cond rfl (fun hc=>?_) (fun hc=>?_)|refine T.ret ?_|simp only [zb,z8,reduceIte,Nat.reduceEqDiff]|((repeat ((fail_if_success (refine hK _ ?_));clear hK K));refine hK _ ?_;clear hK K))
     (refine T.reg (by kernel_rfl) fun K' hK'=>?_;simp only [za,zh,List.map_cons,List.map_nil];(repeat' (first|(with_reducible refine WL.fin ?_;refine hK' _ ?_;clear hK' K')|((with_reducible refine WL.step fun K2 hK2=>?_);simp only [simprocAttr,implies_true,amz,tys,hqr,hrw2,hrat,z06,qc hB hR ht2,z10 hB hR ht2,n0,n1,n2,n3,n4,n5,n6];(repeat' with_reducible (first|(refine hK2 _ ?_;clear hK2 K2)|refine And.intro ?_ ?_|intro hb)))));all_goals ((try simp only [zb,z8,reduceIte,Nat.reduceEqDiff]);(try ((repeat ((fail_if_success (refine hK _ ?_));clear hK K));refine hK _ ?_;clear hK K))))
     repeat' (first|refine T.zi fun K hK=>?_|refine T.block ?_|refine T.skip ?_|refine T.exit ?_|refine T.ze rfl ?_|refine T.zf rfl ?_|refine T.cond rfl (fun hc=>?_) (fun hc=>?_)|refine T.ret ?_|simp only [zb,z8,reduceIte,Nat.reduceEqDiff]|((repeat ((fail_if_success (refine hK _ ?_));clear hK K));refine hK _ ?_;clear hK K))
     (refine T.reg (by kernel_rfl) fun K' hK'=>?_;simp only [za,zh,List.map_cons,List.map_nil];(repeat' (first|(with_reducible refine WL.fin ?_;refine hK' _ ?_;clear hK' K')|((with_reducible refine WL.step fun K2 hK2=>?_);simp only [simprocAttr,implies_true,amz,tys,hf,evC,qc hB hR ht2,z10 hB hR ht2];(repeat' with_reducible (first|(refine hK2 _ ?_;clear hK2 K2)|refine And.intro ?_ ?_|intro hb)))));all_goals ((try simp only [zb,z8,reduceIte,Nat.reduceEqDiff]);(try ((repeat ((fail_if_success (refine hK _ ?_));clear hK K));refine hK _ ?_;clear hK K))))
     refine T.zi fun K hK=>?_
     suffices hmid : ∀ s',zm s' ⟨frI l y s.j ++ [(69,.own (i+B)),(70,.int r.length),(71,.int q),(15,.int ii),(16,.ptr 5000006 0),(17,.bool (z6K f e))],(5000006,AO.boxP none 39 [.p (.val (.int .i64 f.g)),.p (.val (.int .i64 f.kind)),.p (.val (.int .i64 f.obj)),.p (.val (.int .i64 f.off)),.p (.val (.int .i64 f.k)),.p (.val (.int .i64 f.n)),.p (.val (.int .i64 f.fn)),.p (.val (.int .i64 f.pc)),.p (.val (.int .i64 f.st))]) :: (ownI B l e s++H acc2),190,5000007⟩→K s' by
      clear hK
      have hK:=hmid
      clear hmid
      cases c15:(f.kind==15) with
      | false =>
       (refine T.reg (by kernel_rfl) fun K' hK'=>?_;simp only [za,zh,List.map_cons,List.map_nil];(repeat' (first|(with_reducible refine WL.fin ?_;refine hK' _ ?_;clear hK' K')|((with_reducible refine WL.step fun K2 hK2=>?_);simp only [simprocAttr,implies_true,amz,tys,c15,qc hB hR ht2];(repeat' with_reducible (first|(refine hK2 _ ?_;clear hK2 K2)|refine And.intro ?_ ?_|intro hb)))));all_goals ((try simp only [zb,z8,reduceIte,Nat.reduceEqDiff]);(try ((repeat ((fail_if_success (refine hK _ ?_));clear hK K));refine hK _ ?_;clear hK K))))
       refine zm.frm _ _ _ _ (fun t=>?_) (by simp only [wks,reduceIte,Nat.reduceEqDiff,implies_true,and_self,frI,hy6,hy7,hi7,hi8,List.cons_append,List.nil_append,z6K,c15,Bool.false_and]) (by simp only [wks,AV.okB,Nat.reduceLT,decide_true,List.all_cons,List.all_nil,Bool.and_self,frI,hy6,hy7,hi7,hi8,List.cons_append,List.nil_append,z6K,c15,Bool.false_and]) ?_;(focus (first|rfl|(simp only [ownI,List.cons_append];done)));exact z5Z hB hl hs (hH _)
      | true =>
       cases c18:(e.kind==18) with
       | false =>
        (refine T.reg (by kernel_rfl) fun K' hK'=>?_;simp only [za,zh,List.map_cons,List.map_nil];(repeat' (first|(with_reducible refine WL.fin ?_;refine hK' _ ?_;clear hK' K')|((with_reducible refine WL.step fun K2 hK2=>?_);simp only [simprocAttr,implies_true,amz,tys,c15,c18,qc hB hR ht2];(repeat' with_reducible (first|(refine hK2 _ ?_;clear hK2 K2)|refine And.intro ?_ ?_|intro hb)))));all_goals ((try simp only [zb,z8,reduceIte,Nat.reduceEqDiff]);(try ((repeat ((fail_if_success (refine hK _ ?_));clear hK K));refine hK _ ?_;clear hK K))))
        refine zm.frm _ _ _ _ (fun t=>?_) (by simp only [wks,reduceIte,Nat.reduceEqDiff,implies_true,and_self,frI,hy6,hy7,hi7,hi8,List.cons_append,List.nil_append,z6K,c15,c18,Bool.true_and,Bool.false_and]) (by simp only [wks,AV.okB,Nat.reduceLT,decide_true,List.all_cons,List.all_nil,Bool.and_self,frI,hy6,hy7,hi7,hi8,List.cons_append,List.nil_append,z6K,c15,c18,Bool.true_and,Bool.false_and]) ?_;(focus (first|rfl|(simp only [ownI,List.cons_append];done)));exact z5Z hB hl hs (hH _)
       | true =>
        (refine T.reg (by kernel_rfl) fun K' hK'=>?_;simp only [za,zh,List.map_cons,List.map_nil];(repeat' (first|(with_reducible refine WL.fin ?_;refine hK' _ ?_;clear hK' K')|((with_reducible refine WL.step fun K2 hK2=>?_);simp only [simprocAttr,implies_true,amz,tys,c15,c18,qc hB hR ht2];(repeat' with_reducible (first|(refine hK2 _ ?_;clear hK2 K2)|refine And.intro ?_ ?_|intro hb)))));all_goals ((try simp only [zb,z8,reduceIte,Nat.reduceEqDiff]);(try ((repeat ((fail_if_success (refine hK _ ?_));clear hK K));refine hK _ ?_;clear hK K))))
        refine zm.frm _ _ _ _ (fun t=>?_) (by simp only [wks,reduceIte,Nat.reduceEqDiff,implies_true,and_self,frI,hy6,hy7,hi7,hi8,List.cons_append,List.nil_append,z6K,c15,c18,Bool.true_and]) (by simp only [wks,AV.okB,Nat.reduceLT,decide_true,List.all_cons,List.all_nil,Bool.and_self,frI,hy6,hy7,hi7,hi8,List.cons_append,List.nil_append,z6K,c15,c18,Bool.true_and]) ?_;(focus (first|rfl|(simp only [ownI,List.cons_append];done)));exact z5Z hB hl hs (hH _)
     intro s' hw
     refine hK s' ?_
     refine T.weak hw ?_
     clear hK hw s' K
     refine T.zi fun K hK=>?_
     suffices hmid : ∀ s',zm s' ⟨frI l y s.j ++ [(69,.own (i+B)),(70,.int r.length),(71,.int q),(15,.int ii),(16,.ptr 5000006 0),(17,.bool (z6K f e)),(18,.bool (z7s f e))],(5000006,AO.boxP none 39 [.p (.val (.int .i64 f.g)),.p (.val (.int .i64 f.kind)),.p (.val (.int .i64 f.obj)),.p (.val (.int .i64 f.off)),.p (.val (.int .i64 f.k)),.p (.val (.int .i64 f.n)),.p (.val (.int .i64 f.fn)),.p (.val (.int .i64 f.pc)),.p (.val (.int .i64 f.st))]) :: (ownI B l e s++H acc2),190,5000007⟩→K s' by
      clear hK
      have hK:=hmid
      clear hmid
      simp only [frI,ownI,List.cons_append,List.nil_append]
      cases c17:(f.kind==17) with
      | false =>
       (refine T.reg (by kernel_rfl) fun K' hK'=>?_;simp only [za,zh,List.map_cons,List.map_nil];(repeat' (first|(with_reducible refine WL.fin ?_;refine hK' _ ?_;clear hK' K')|((with_reducible refine WL.step fun K2 hK2=>?_);simp only [simprocAttr,implies_true,amz,tys,c17,qc hB hR ht2];(repeat' with_reducible (first|(refine hK2 _ ?_;clear hK2 K2)|refine And.intro ?_ ?_|intro hb)))));all_goals ((try simp only [zb,z8,reduceIte,Nat.reduceEqDiff]);(try ((repeat ((fail_if_success (refine hK _ ?_));clear hK K));refine hK _ ?_;clear hK K))))
       refine zm.frm _ _ _ _ (fun t=>?_) (by simp only [wks,reduceIte,Nat.reduceEqDiff,implies_true,and_self,frI,hy6,hy7,hi7,hi8,List.cons_append,List.nil_append,z7s,c17,Bool.false_and]) (by simp only [wks,AV.okB,Nat.reduceLT,decide_true,List.all_cons,List.all_nil,Bool.and_self,frI,hy6,hy7,hi7,hi8,List.cons_append,List.nil_append,z7s,c17,Bool.false_and]) ?_;(focus (first|rfl|(simp only [ownI,List.cons_append];done)));exact z5Z hB hl hs (hH _)
      | true =>
       cases c16:(e.kind==16) with
       | false =>
        (refine T.reg (by kernel_rfl) fun K' hK'=>?_;simp only [za,zh,List.map_cons,List.map_nil];(repeat' (first|(with_reducible refine WL.fin ?_;refine hK' _ ?_;clear hK' K')|((with_reducible refine WL.step fun K2 hK2=>?_);simp only [simprocAttr,implies_true,amz,tys,c17,c16,qc hB hR ht2];(repeat' with_reducible (first|(refine hK2 _ ?_;clear hK2 K2)|refine And.intro ?_ ?_|intro hb)))));all_goals ((try simp only [zb,z8,reduceIte,Nat.reduceEqDiff]);(try ((repeat ((fail_if_success (refine hK _ ?_));clear hK K));refine hK _ ?_;clear hK K))))
        refine zm.frm _ _ _ _ (fun t=>?_) (by simp only [wks,reduceIte,Nat.reduceEqDiff,implies_true,and_self,frI,hy6,hy7,hi7,hi8,List.cons_append,List.nil_append,z7s,c17,c16,Bool.true_and,Bool.false_and]) (by simp only [wks,AV.okB,Nat.reduceLT,decide_true,List.all_cons,List.all_nil,Bool.and_self,frI,hy6,hy7,hi7,hi8,List.cons_append,List.nil_append,z7s,c17,c16,Bool.true_and,Bool.false_and]) ?_;(focus (first|rfl|(simp only [ownI,List.cons_append];done)));exact z5Z hB hl hs (hH _)
       | true =>
        (refine T.reg (by kernel_rfl) fun K' hK'=>?_;simp only [za,zh,List.map_cons,List.map_nil];(repeat' (first|(with_reducible refine WL.fin ?_;refine hK' _ ?_;clear hK' K')|((with_reducible refine WL.step fun K2 hK2=>?_);simp only [simprocAttr,implies_true,amz,tys,c17,c16,qc hB hR ht2];(repeat' with_reducible (first|(refine hK2 _ ?_;clear hK2 K2)|refine And.intro ?_ ?_|intro hb)))));all_goals ((try simp only [zb,z8,reduceIte,Nat.reduceEqDiff]);(try ((repeat ((fail_if_success (refine hK _ ?_));clear hK K));refine hK _ ?_;clear hK K))))
        refine zm.frm _ _ _ _ (fun t=>?_) (by simp only [wks,reduceIte,Nat.reduceEqDiff,implies_true,and_self,frI,hy6,hy7,hi7,hi8,List.cons_append,List.nil_append,z7s,c17,c16,Bool.true_and]) (by simp only [wks,AV.okB,Nat.reduceLT,decide_true,List.all_cons,List.all_nil,Bool.and_self,frI,hy6,hy7,hi7,hi8,List.cons_append,List.nil_append,z7s,c17,c16,Bool.true_and]) ?_;(focus (first|rfl|(simp only [ownI,List.cons_append];done)));exact z5Z hB hl hs (hH _)
     intro s' hw
     refine hK s' ?_
     refine T.weak hw ?_
     clear hK hw s' K
     have hyes:z4c f e=true→(∃ rs,z0Z l l.length=acc2++(⟨ii,s.j,e.kind⟩ : Ed) :: rs)∧acc2 ++ [(⟨ii,s.j,e.kind⟩ : Ed)]=acc1++z2g l e s.j (r.take (q+1)):=fun hm=>by
      refine ⟨⟨z2g l e s.j (r.drop (q+1))++(z3K l e s.j++rest),?_⟩,?_⟩
      ·rw [hrest,← hr,z9D l e s.j r q,drop_at hii,zaX l e s.j ii _ f hf,hm,hacc2]
       simp
      ·rw [z7H l e s.j hii hf,hm,hacc2]
       simp
     have hno:z4c f e=false→acc2=acc1++z2g l e s.j (r.take (q+1)):=fun hm=>by
      rw [z7H l e s.j hii hf,hm,hacc2]
      simp
     simp only [frI,ownI,List.cons_append,List.nil_append]
     cases hsn:z6K f e with
     | true =>
      obtain ⟨hpre,hnext⟩:=hyes (by simp [z4c,hsn])
      obtain ⟨lr,sp,fr0,hlk0,hyc0⟩:=hyld acc2 ⟨ii,s.j,e.kind⟩ hpre
      simp only [edC,List.map_cons,List.map_nil] at hyc0
      repeat' (first|refine T.zi fun K hK=>?_|refine T.block ?_|refine T.skip ?_|refine T.exit ?_|refine T.ze rfl ?_|refine T.zf rfl ?_|refine T.cond rfl (fun hc=>?_) (fun hc=>?_)|refine T.ret ?_|simp only [zb,z8,reduceIte,Nat.reduceEqDiff]|((repeat ((fail_if_success (refine hK _ ?_));clear hK K));refine hK _ ?_;clear hK K))
      refine T.regI (by kernel_rfl) fun K' hK'=>?_;simp only [List.map_cons,List.map_nil]
      iterate 18 ((with_reducible refine WLI.z1a fun K2 hK2=>?_);simp only [simprocAttr,implies_true,amz,tys,qc hB hR ht2];(repeat' (first|with_reducible (first|(refine hK2 _ ?_;clear hK2 K2)|refine And.intro ?_ ?_|intro hb))))
      (with_reducible refine WLI.z9N fun K2 hK2=>?_);simp only [WSY,WY,simprocAttr,implies_true,amz,tys,hiB,qc hB hR ht2];(refine z6S.of 2000000 ((5000006,AO.boxP none 39 [.p (.val (.int .i64 f.g)),.p (.val (.int .i64 f.kind)),.p (.val (.int .i64 f.obj)),.p (.val (.int .i64 f.off)),.p (.val (.int .i64 f.k)),.p (.val (.int .i64 f.n)),.p (.val (.int .i64 f.fn)),.p (.val (.int .i64 f.pc)),.p (.val (.int .i64 f.st))]) :: ownI B l e s) (H (acc2)) (H (acc2 ++ [⟨ii,s.j,e.kind⟩])) _ _ _ rfl (z7L (by decide) (z1S hB _ _ _)) ?_ (hH _) hyc0 hlk0 (z9n hh _ _) (by decide) (by simp [AV.okB,AV.qx]) ?_);(focus (simp only [z2Y hB,List.map_cons,AO.z3g,AV.qH,List.map_nil,evC];done));refine hK2 _ ?_;clear hK2 K2;(refine WLI.weak (zm.hpe _ ((5000006,AO.boxP none 39 [.p (.val (.int .i64 f.g)),.p (.val (.int .i64 f.kind)),.p (.val (.int .i64 f.obj)),.p (.val (.int .i64 f.off)),.p (.val (.int .i64 f.k)),.p (.val (.int .i64 f.n)),.p (.val (.int .i64 f.fn)),.p (.val (.int .i64 f.pc)),.p (.val (.int .i64 f.st))]) :: ownI B l e s++H (acc2 ++ [⟨ii,s.j,e.kind⟩])) (z5l (z7L (by decide) (z1S hB _ _ _)) (hH _))) ?_);simp only [List.map_cons,List.map_nil,AV.qf,AV.qd,AV.zS,AV.qp,AV.qH,AV.ql,AV.zP,AV.zT,AV.qD,AV.qm,AV.qj,Nat.reduceLeDiff,true_or,reduceIte,List.mem_singleton,or_true,ownI,List.cons_append,zD,tys,hiB,qc hB hR ht2]
      iterate 2 ((with_reducible refine WLI.z1a fun K2 hK2=>?_);simp only [simprocAttr,implies_true,amz,tys];(repeat' (first|with_reducible (first|(refine hK2 _ ?_;clear hK2 K2)|refine And.intro ?_ ?_|intro hb))))
      (with_reducible refine WLI.fin ?_);refine hK' _ ?_;clear hK' K';(try simp only [zb,z8,reduceIte,Nat.reduceEqDiff]);(try ((repeat ((fail_if_success (refine hK _ ?_));clear hK K));refine hK _ ?_;clear hK K))
      repeat' (first|refine T.zi fun K hK=>?_|refine T.block ?_|(refine T.reg (by kernel_rfl) fun K' hK'=>?_;simp only [za,zh,List.map_cons,List.map_nil];(repeat' (first|(with_reducible refine WL.fin ?_;refine hK' _ ?_;clear hK' K')|((with_reducible refine WL.step fun K2 hK2=>?_);simp only [simprocAttr,implies_true,amz,tys];(repeat' with_reducible (first|(refine hK2 _ ?_;clear hK2 K2)|refine And.intro ?_ ?_|intro hb))))))|refine T.skip ?_|refine T.exit ?_|refine T.ze rfl ?_|refine T.zf rfl ?_|refine T.cond rfl (fun hc=>?_) (fun hc=>?_)|refine T.ret ?_|simp only [zb,z8,reduceIte,Nat.reduceEqDiff]|((repeat ((fail_if_success (refine hK _ ?_));clear hK K));refine hK _ ?_;clear hK K))
      rw [hnext]
      refine hKL _ (q+1) ?_ (by omega) (by omega)
      refine zm.subs _ _ _ _ (fun t o ho=>?_) (by simp only [wks,reduceIte,Nat.reduceEqDiff,implies_true,and_self,frI,hy6,hi7,List.cons_append,List.nil_append,zq (show q<1152921504606846976 by omega)]) (by simp only [wks,AV.okB,Nat.reduceLT,decide_true,List.all_cons,List.all_nil,Bool.and_self,frI,hy6,hi7,List.cons_append,List.nil_append,zq (show q<1152921504606846976 by omega)]) (z0H hB hl hs (hH _));exact (zl (Nat.ne_of_lt (z0H hB hl hs (hH _) t o ho).1)).trans ho
     | false =>
      cases hfz:z7s f e with
      | true =>
       obtain ⟨hpre,hnext⟩:=hyes (by simp [z4c,hfz])
       obtain ⟨lr,sp,fr0,hlk0,hyc0⟩:=hyld acc2 ⟨ii,s.j,e.kind⟩ hpre
       simp only [edC,List.map_cons,List.map_nil] at hyc0
       repeat' (first|refine T.zi fun K hK=>?_|refine T.block ?_|refine T.skip ?_|refine T.exit ?_|refine T.ze rfl ?_|refine T.zf rfl ?_|refine T.cond rfl (fun hc=>?_) (fun hc=>?_)|refine T.ret ?_|simp only [zb,z8,reduceIte,Nat.reduceEqDiff]|((repeat ((fail_if_success (refine hK _ ?_));clear hK K));refine hK _ ?_;clear hK K))
       refine T.regI (by kernel_rfl) fun K' hK'=>?_;simp only [List.map_cons,List.map_nil]
       iterate 18 ((with_reducible refine WLI.z1a fun K2 hK2=>?_);simp only [simprocAttr,implies_true,amz,tys,qc hB hR ht2];(repeat' (first|with_reducible (first|(refine hK2 _ ?_;clear hK2 K2)|refine And.intro ?_ ?_|intro hb))))
       (with_reducible refine WLI.z9N fun K2 hK2=>?_);simp only [WSY,WY,simprocAttr,implies_true,amz,tys,hiB,qc hB hR ht2];(refine z6S.of 2000000 ((5000006,AO.boxP none 39 [.p (.val (.int .i64 f.g)),.p (.val (.int .i64 f.kind)),.p (.val (.int .i64 f.obj)),.p (.val (.int .i64 f.off)),.p (.val (.int .i64 f.k)),.p (.val (.int .i64 f.n)),.p (.val (.int .i64 f.fn)),.p (.val (.int .i64 f.pc)),.p (.val (.int .i64 f.st))]) :: ownI B l e s) (H (acc2)) (H (acc2 ++ [⟨ii,s.j,e.kind⟩])) _ _ _ rfl (z7L (by decide) (z1S hB _ _ _)) ?_ (hH _) hyc0 hlk0 (z9n hh _ _) (by decide) (by simp [AV.okB,AV.qx]) ?_);(focus (simp only [z2Y hB,List.map_cons,AO.z3g,AV.qH,List.map_nil,evC];done));refine hK2 _ ?_;clear hK2 K2;(refine WLI.weak (zm.hpe _ ((5000006,AO.boxP none 39 [.p (.val (.int .i64 f.g)),.p (.val (.int .i64 f.kind)),.p (.val (.int .i64 f.obj)),.p (.val (.int .i64 f.off)),.p (.val (.int .i64 f.k)),.p (.val (.int .i64 f.n)),.p (.val (.int .i64 f.fn)),.p (.val (.int .i64 f.pc)),.p (.val (.int .i64 f.st))]) :: ownI B l e s++H (acc2 ++ [⟨ii,s.j,e.kind⟩])) (z5l (z7L (by decide) (z1S hB _ _ _)) (hH _))) ?_);simp only [List.map_cons,List.map_nil,AV.qf,AV.qd,AV.zS,AV.qp,AV.qH,AV.ql,AV.zP,AV.zT,AV.qD,AV.qm,AV.qj,Nat.reduceLeDiff,true_or,reduceIte,List.mem_singleton,or_true,ownI,List.cons_append,zD,tys,hiB,qc hB hR ht2]
       iterate 2 ((with_reducible refine WLI.z1a fun K2 hK2=>?_);simp only [simprocAttr,implies_true,amz,tys];(repeat' (first|with_reducible (first|(refine hK2 _ ?_;clear hK2 K2)|refine And.intro ?_ ?_|intro hb))))
       (with_reducible refine WLI.fin ?_);refine hK' _ ?_;clear hK' K';(try simp only [zb,z8,reduceIte,Nat.reduceEqDiff]);(try ((repeat ((fail_if_success (refine hK _ ?_));clear hK K));refine hK _ ?_;clear hK K))
       repeat' (first|refine T.zi fun K hK=>?_|refine T.block ?_|(refine T.reg (by kernel_rfl) fun K' hK'=>?_;simp only [za,zh,List.map_cons,List.map_nil];(repeat' (first|(with_reducible refine WL.fin ?_;refine hK' _ ?_;clear hK' K')|((with_reducible refine WL.step fun K2 hK2=>?_);simp only [simprocAttr,implies_true,amz,tys];(repeat' with_reducible (first|(refine hK2 _ ?_;clear hK2 K2)|refine And.intro ?_ ?_|intro hb))))))|refine T.skip ?_|refine T.exit ?_|refine T.ze rfl ?_|refine T.zf rfl ?_|refine T.cond rfl (fun hc=>?_) (fun hc=>?_)|refine T.ret ?_|simp only [zb,z8,reduceIte,Nat.reduceEqDiff]|((repeat ((fail_if_success (refine hK _ ?_));clear hK K));refine hK _ ?_;clear hK K))
       rw [hnext]
       refine hKL _ (q+1) ?_ (by omega) (by omega)
       refine zm.subs _ _ _ _ (fun t o ho=>?_) (by simp only [wks,reduceIte,Nat.reduceEqDiff,implies_true,and_self,frI,hy6,hi7,List.cons_append,List.nil_append,zq (show q<1152921504606846976 by omega)]) (by simp only [wks,AV.okB,Nat.reduceLT,decide_true,List.all_cons,List.all_nil,Bool.and_self,frI,hy6,hi7,List.cons_append,List.nil_append,zq (show q<1152921504606846976 by omega)]) (z0H hB hl hs (hH _));exact (zl (Nat.ne_of_lt (z0H hB hl hs (hH _) t o ho).1)).trans ho
      | false =>
       have hAf:=z9x f.kind e.kind
       cases haf:aftB f.kind e.kind with
       | true =>
        rw [haf] at hAf
        obtain ⟨hpre,hnext⟩:=hyes (by simp [z4c,haf])
        obtain ⟨lr,sp,fr0,hlk0,hyc0⟩:=hyld acc2 ⟨ii,s.j,e.kind⟩ hpre
        simp only [edC,List.map_cons,List.map_nil] at hyc0
        repeat' (first|refine T.zi fun K hK=>?_|refine T.block ?_|refine T.skip ?_|refine T.exit ?_|refine T.ze rfl ?_|refine T.zf rfl ?_|refine T.cond rfl (fun hc=>?_) (fun hc=>?_)|refine T.ret ?_|simp only [zb,z8,reduceIte,Nat.reduceEqDiff]|((repeat ((fail_if_success (refine hK _ ?_));clear hK K));refine hK _ ?_;clear hK K))
        refine T.regI (by kernel_rfl) fun K' hK'=>?_;simp only [List.map_cons,List.map_nil]
        iterate 9 ((with_reducible refine WLI.z1a fun K2 hK2=>?_);simp only [simprocAttr,implies_true,amz,tys,qc hB hR ht2];(repeat' (first|with_reducible (first|(refine hK2 _ ?_;clear hK2 K2)|refine And.intro ?_ ?_|intro hb))))
        (with_reducible refine WLI.z1a fun K2 hK2=>?_);simp only [simprocAttr,implies_true,amz,tys];((first|(with_reducible apply zg)|(with_reducible apply zk));case h=>exact CallV.plain (Ent.of Try.func53 (by kernel_rfl) rfl) (hAf) (by simp [AV.okB]));refine hK2 _ ?_;clear hK2 K2
        iterate 8 ((with_reducible refine WLI.z1a fun K2 hK2=>?_);simp only [simprocAttr,implies_true,amz,tys,qc hB hR ht2];(repeat' (first|with_reducible (first|(refine hK2 _ ?_;clear hK2 K2)|refine And.intro ?_ ?_|intro hb))))
        (with_reducible refine WLI.z9N fun K2 hK2=>?_);simp only [WSY,WY,simprocAttr,implies_true,amz,tys,hiB,qc hB hR ht2];(refine z6S.of 2000000 ((5000006,AO.boxP none 39 [.p (.val (.int .i64 f.g)),.p (.val (.int .i64 f.kind)),.p (.val (.int .i64 f.obj)),.p (.val (.int .i64 f.off)),.p (.val (.int .i64 f.k)),.p (.val (.int .i64 f.n)),.p (.val (.int .i64 f.fn)),.p (.val (.int .i64 f.pc)),.p (.val (.int .i64 f.st))]) :: ownI B l e s) (H (acc2)) (H (acc2 ++ [⟨ii,s.j,e.kind⟩])) _ _ _ rfl (z7L (by decide) (z1S hB _ _ _)) ?_ (hH _) hyc0 hlk0 (z9n hh _ _) (by decide) (by simp [AV.okB,AV.qx]) ?_);(focus (simp only [z2Y hB,List.map_cons,AO.z3g,AV.qH,List.map_nil,evC];done));refine hK2 _ ?_;clear hK2 K2;(refine WLI.weak (zm.hpe _ ((5000006,AO.boxP none 39 [.p (.val (.int .i64 f.g)),.p (.val (.int .i64 f.kind)),.p (.val (.int .i64 f.obj)),.p (.val (.int .i64 f.off)),.p (.val (.int .i64 f.k)),.p (.val (.int .i64 f.n)),.p (.val (.int .i64 f.fn)),.p (.val (.int .i64 f.pc)),.p (.val (.int .i64 f.st))]) :: ownI B l e s++H (acc2 ++ [⟨ii,s.j,e.kind⟩])) (z5l (z7L (by decide) (z1S hB _ _ _)) (hH _))) ?_);simp only [List.map_cons,List.map_nil,AV.qf,AV.qd,AV.zS,AV.qp,AV.qH,AV.ql,AV.zP,AV.zT,AV.qD,AV.qm,AV.qj,Nat.reduceLeDiff,true_or,reduceIte,List.mem_singleton,or_true,ownI,List.cons_append,zD,tys,hiB,qc hB hR ht2]
        iterate 2 ((with_reducible refine WLI.z1a fun K2 hK2=>?_);simp only [simprocAttr,implies_true,amz,tys];(repeat' (first|with_reducible (first|(refine hK2 _ ?_;clear hK2 K2)|refine And.intro ?_ ?_|intro hb))))
        (with_reducible refine WLI.fin ?_);refine hK' _ ?_;clear hK' K';(try simp only [zb,z8,reduceIte,Nat.reduceEqDiff]);(try ((repeat ((fail_if_success (refine hK _ ?_));clear hK K));refine hK _ ?_;clear hK K))
        repeat' (first|refine T.zi fun K hK=>?_|refine T.block ?_|(refine T.reg (by kernel_rfl) fun K' hK'=>?_;simp only [za,zh,List.map_cons,List.map_nil];(repeat' (first|(with_reducible refine WL.fin ?_;refine hK' _ ?_;clear hK' K')|((with_reducible refine WL.step fun K2 hK2=>?_);simp only [simprocAttr,implies_true,amz,tys];(repeat' with_reducible (first|(refine hK2 _ ?_;clear hK2 K2)|refine And.intro ?_ ?_|intro hb))))))|refine T.skip ?_|refine T.exit ?_|refine T.ze rfl ?_|refine T.zf rfl ?_|refine T.cond rfl (fun hc=>?_) (fun hc=>?_)|refine T.ret ?_|simp only [zb,z8,reduceIte,Nat.reduceEqDiff]|((repeat ((fail_if_success (refine hK _ ?_));clear hK K));refine hK _ ?_;clear hK K))
        rw [hnext]
        refine hKL _ (q+1) ?_ (by omega) (by omega)
        refine zm.subs _ _ _ _ (fun t o ho=>?_) (by simp only [wks,reduceIte,Nat.reduceEqDiff,implies_true,and_self,frI,hy6,hi7,List.cons_append,List.nil_append,zq (show q<1152921504606846976 by omega)]) (by simp only [wks,AV.okB,Nat.reduceLT,decide_true,List.all_cons,List.all_nil,Bool.and_self,frI,hy6,hi7,List.cons_append,List.nil_append,zq (show q<1152921504606846976 by omega)]) (z0H hB hl hs (hH _));exact (zl (Nat.ne_of_lt (z0H hB hl hs (hH _) t o ho).1)).trans ho
       | false =>
        rw [haf] at hAf
        have hnext:=hno (by simp [z4c,hsn,hfz,haf])
        repeat' (first|refine T.zi fun K hK=>?_|refine T.block ?_|refine T.skip ?_|refine T.exit ?_|refine T.ze rfl ?_|refine T.zf rfl ?_|refine T.cond rfl (fun hc=>?_) (fun hc=>?_)|refine T.ret ?_|simp only [zb,z8,reduceIte,Nat.reduceEqDiff]|((repeat ((fail_if_success (refine hK _ ?_));clear hK K));refine hK _ ?_;clear hK K))
        refine T.regI (by kernel_rfl) fun K' hK'=>?_;simp only [List.map_cons,List.map_nil]
        iterate 9 ((with_reducible refine WLI.z1a fun K2 hK2=>?_);simp only [simprocAttr,implies_true,amz,tys,qc hB hR ht2];(repeat' (first|with_reducible (first|(refine hK2 _ ?_;clear hK2 K2)|refine And.intro ?_ ?_|intro hb))))
        (with_reducible refine WLI.z1a fun K2 hK2=>?_);simp only [simprocAttr,implies_true,amz,tys];((first|(with_reducible apply zg)|(with_reducible apply zk));case h=>exact CallV.plain (Ent.of Try.func53 (by kernel_rfl) rfl) (hAf) (by simp [AV.okB]));refine hK2 _ ?_;clear hK2 K2
        iterate 11 ((with_reducible refine WLI.z1a fun K2 hK2=>?_);simp only [simprocAttr,implies_true,amz,tys,qc hB hR ht2];(repeat' (first|with_reducible (first|(refine hK2 _ ?_;clear hK2 K2)|refine And.intro ?_ ?_|intro hb))))
        (with_reducible refine WLI.fin ?_);refine hK' _ ?_;clear hK' K';(try simp only [zb,z8,reduceIte,Nat.reduceEqDiff]);(try ((repeat ((fail_if_success (refine hK _ ?_));clear hK K));refine hK _ ?_;clear hK K))
        repeat' (first|refine T.zi fun K hK=>?_|refine T.block ?_|(refine T.reg (by kernel_rfl) fun K' hK'=>?_;simp only [za,zh,List.map_cons,List.map_nil];(repeat' (first|(with_reducible refine WL.fin ?_;refine hK' _ ?_;clear hK' K')|((with_reducible refine WL.step fun K2 hK2=>?_);simp only [simprocAttr,implies_true,amz,tys];(repeat' with_reducible (first|(refine hK2 _ ?_;clear hK2 K2)|refine And.intro ?_ ?_|intro hb))))))|refine T.skip ?_|refine T.exit ?_|refine T.ze rfl ?_|refine T.zf rfl ?_|refine T.cond rfl (fun hc=>?_) (fun hc=>?_)|refine T.ret ?_|simp only [zb,z8,reduceIte,Nat.reduceEqDiff]|((repeat ((fail_if_success (refine hK _ ?_));clear hK K));refine hK _ ?_;clear hK K))
        rw [hnext]
        refine hKL _ (q+1) ?_ (by omega) (by omega)
        refine zm.subs _ _ _ _ (fun t o ho=>?_) (by simp only [wks,reduceIte,Nat.reduceEqDiff,implies_true,and_self,frI,hy6,hi7,List.cons_append,List.nil_append,zq (show q<1152921504606846976 by omega)]) (by simp only [wks,AV.okB,Nat.reduceLT,decide_true,List.all_cons,List.all_nil,Bool.and_self,frI,hy6,hi7,List.cons_append,List.nil_append,zq (show q<1152921504606846976 by omega)]) (z0H hB hl hs (hH _));exact (zl (Nat.ne_of_lt (z0H hB hl hs (hH _) t o ho).1)).trans ho
    ·have hdq:decide ((q:Int)<(r.length:Int))=false:=by simpa using hqr
     repeat' (first|refine T.zi fun K hK=>?_|refine T.block ?_|(refine T.reg (by kernel_rfl) fun K' hK'=>?_;simp only [za,zh,List.map_cons,List.map_nil];(repeat' (first|(with_reducible refine WL.fin ?_;refine hK' _ ?_;clear hK' K')|((with_reducible refine WL.step fun K2 hK2=>?_);simp only [simprocAttr,implies_true,amz,tys,hdq];(repeat' with_reducible (first|(refine hK2 _ ?_;clear hK2 K2)|refine And.intro ?_ ?_|intro hb))))))|refine T.skip ?_|refine T.exit ?_|refine T.ze rfl ?_|refine T.zf rfl ?_|refine T.cond rfl (fun hc=>?_) (fun hc=>?_)|refine T.ret ?_|simp only [zb,z8,reduceIte,Nat.reduceEqDiff]|((repeat ((fail_if_success (refine hK _ ?_));clear hK K));refine hK _ ?_;clear hK K))
     rw [hacc2,List.take_of_length_le (by omega)]
     refine zm.frm _ _ _ _ (fun t=>?_) (by simp only [wks,reduceIte,Nat.reduceEqDiff,implies_true,and_self,frI,hy6,]) (by simp only [wks,AV.okB,Nat.reduceLT,decide_true,List.all_cons,List.all_nil,Bool.and_self,frI,hy6,]) ?_;(focus (first|rfl|(simp only [ownI,List.cons_append];done)));exact z0H hB hl hs (hH _)
  intro s' hw
  refine hK s' ?_
  refine T.weak hw ?_
  clear hK hw s' K ht
  obtain ⟨acc3,hacc3⟩ : ∃ a,a=acc1++z2g l e s.j (atL l e.obj e.off s.j):=⟨_,rfl⟩
  rw [← hacc3]
  rw [← List.append_assoc,← hacc3] at hrest
  have ht:=hH acc3
  refine T.zi fun K hK=>?_
  suffices hmid : ∀ s',zm s' ⟨frI l y s.j,ownI B l e s++H (acc3++z3K l e s.j),190,5000006⟩→K s' by
   clear hK
   have hK:=hmid
   clear hmid
   simp only [frI,ownI,List.cons_append]
   cases hW:z0y l (wrAt e.obj e.off) s.j with
   | none =>
    have hrW:z3K l e s.j = []:=by rw [z3K,hW]
    rw [hrW,List.append_nil] at hK
    repeat' (first|refine T.zi fun K hK=>?_|refine T.block ?_|(refine T.reg (by kernel_rfl) fun K' hK'=>?_;simp only [za,zh,List.map_cons,List.map_nil];(repeat' (first|(with_reducible refine WL.fin ?_;refine hK' _ ?_;clear hK' K')|((with_reducible refine WL.step fun K2 hK2=>?_);simp only [simprocAttr,implies_true,amz,tys,hW,z2q,z2o iO iF,z4T nI _ iO iF,nI,qc hB hR ht,z10 hB hR ht,Option.isSome_none];(repeat' with_reducible (first|(refine hK2 _ ?_;clear hK2 K2)|refine And.intro ?_ ?_|intro hb))))))|refine T.skip ?_|refine T.exit ?_|refine T.ze rfl ?_|refine T.zf rfl ?_|refine T.cond rfl (fun hc=>?_) (fun hc=>?_)|refine T.ret ?_|simp only [zb,z8,reduceIte,Nat.reduceEqDiff]|((repeat ((fail_if_success (refine hK _ ?_));clear hK K));refine hK _ ?_;clear hK K))
    refine zm.frm _ _ _ _ (fun t=>?_) (by simp only [wks,reduceIte,Nat.reduceEqDiff,implies_true,and_self,frI,hy6,]) (by simp only [wks,AV.okB,Nat.reduceLT,decide_true,List.all_cons,List.all_nil,Bool.and_self,frI,hy6,]) ?_;(focus (first|rfl|(simp only [ownI,List.cons_append];done)));exact z0H hB hl hs (hH _)
   | some w =>
    cases k3:(e.kind==3) with
    | true =>
     have hrW:z3K l e s.j = [⟨w,s.j,e.kind⟩]:=by rw [z3K,hW];simp [rdK,k3]
     rw [hrW] at hK hrest
     obtain ⟨lr,sp,fr0,hlk0,hyc0⟩:=hyld acc3 ⟨w,s.j,e.kind⟩ ⟨_,hrest⟩
     simp only [edC,List.map_cons,List.map_nil] at hyc0
     repeat' (first|refine T.zi fun K hK=>?_|refine T.block ?_|refine T.skip ?_|refine T.exit ?_|refine T.ze rfl ?_|refine T.zf rfl ?_|refine T.cond rfl (fun hc=>?_) (fun hc=>?_)|refine T.ret ?_|simp only [zb,z8,reduceIte,Nat.reduceEqDiff]|((repeat ((fail_if_success (refine hK _ ?_));clear hK K));refine hK _ ?_;clear hK K))
     (refine T.reg (by kernel_rfl) fun K' hK'=>?_;simp only [za,zh,List.map_cons,List.map_nil];(repeat' (first|(with_reducible refine WL.fin ?_;refine hK' _ ?_;clear hK' K')|((with_reducible refine WL.step fun K2 hK2=>?_);simp only [simprocAttr,implies_true,amz,tys,hW,k3,z2q,z2o iO iF,z4T nI _ iO iF,nI,qc hB hR ht,z10 hB hR ht,Option.isSome_some];(repeat' with_reducible (first|(refine hK2 _ ?_;clear hK2 K2)|refine And.intro ?_ ?_|intro hb)))));all_goals ((try simp only [zb,z8,reduceIte,Nat.reduceEqDiff]);(try ((repeat ((fail_if_success (refine hK _ ?_));clear hK K));refine hK _ ?_;clear hK K))))
     repeat' (first|refine T.zi fun K hK=>?_|refine T.block ?_|refine T.skip ?_|refine T.exit ?_|refine T.ze rfl ?_|refine T.zf rfl ?_|refine T.cond rfl (fun hc=>?_) (fun hc=>?_)|refine T.ret ?_|simp only [zb,z8,reduceIte,Nat.reduceEqDiff]|((repeat ((fail_if_success (refine hK _ ?_));clear hK K));refine hK _ ?_;clear hK K))
     (refine T.reg (by kernel_rfl) fun K' hK'=>?_;simp only [za,zh,List.map_cons,List.map_nil];(repeat' (first|(with_reducible refine WL.fin ?_;refine hK' _ ?_;clear hK' K')|((with_reducible refine WL.step fun K2 hK2=>?_);simp only [simprocAttr,implies_true,amz,tys,hW,k3,qc hB hR ht];(repeat' with_reducible (first|(refine hK2 _ ?_;clear hK2 K2)|refine And.intro ?_ ?_|intro hb)))));all_goals ((try simp only [zb,z8,reduceIte,Nat.reduceEqDiff]);(try ((repeat ((fail_if_success (refine hK _ ?_));clear hK K));refine hK _ ?_;clear hK K))))
     repeat' (first|refine T.zi fun K hK=>?_|refine T.block ?_|refine T.skip ?_|refine T.exit ?_|refine T.ze rfl ?_|refine T.zf rfl ?_|refine T.cond rfl (fun hc=>?_) (fun hc=>?_)|refine T.ret ?_|simp only [zb,z8,reduceIte,Nat.reduceEqDiff]|((repeat ((fail_if_success (refine hK _ ?_));clear hK K));refine hK _ ?_;clear hK K))
     refine T.regI (by kernel_rfl) fun K' hK'=>?_;simp only [List.map_cons,List.map_nil]
     iterate 6 ((with_reducible refine WLI.z1a fun K2 hK2=>?_);simp only [simprocAttr,implies_true,amz,tys,qc hB hR ht];(repeat' (first|with_reducible (first|(refine hK2 _ ?_;clear hK2 K2)|refine And.intro ?_ ?_|intro hb))))
     (with_reducible refine WLI.z9N fun K2 hK2=>?_);simp only [WSY,WY,simprocAttr,implies_true,amz,tys];(refine z6S.of 2000000 (ownI B l e s) (H (acc3)) (H (acc3 ++ [⟨w,s.j,e.kind⟩])) _ _ _ rfl (z1S hB _ _ _) ?_ (hH _) hyc0 hlk0 (z9n hh _ _) (by decide) (by simp [AV.okB,AV.qx]) ?_);(focus (simp only [z2Y hB,List.map_cons,AO.z3g,AV.qH,List.map_nil,evC];done));refine hK2 _ ?_;clear hK2 K2;(refine WLI.weak (zm.hpe _ (ownI B l e s++H (acc3 ++ [⟨w,s.j,e.kind⟩])) (z5l (z1S hB _ _ _) (hH _))) ?_);simp only [List.map_cons,List.map_nil,AV.qf,AV.qd,AV.zS,AV.qp,AV.qH,AV.ql,AV.zP,AV.zT,AV.qD,AV.qm,AV.qj,Nat.reduceLeDiff,true_or,reduceIte,List.mem_singleton,or_true,ownI,List.cons_append,zD,tys]
     (with_reducible refine WLI.z1a fun K2 hK2=>?_);simp only [simprocAttr,implies_true,amz,tys];(repeat' (first|with_reducible (first|(refine hK2 _ ?_;clear hK2 K2)|refine And.intro ?_ ?_|intro hb)))
     (with_reducible refine WLI.fin ?_);refine hK' _ ?_;clear hK' K';(try simp only [zb,z8,reduceIte,Nat.reduceEqDiff]);(try ((repeat ((fail_if_success (refine hK _ ?_));clear hK K));refine hK _ ?_;clear hK K))
     repeat' (first|refine T.zi fun K hK=>?_|refine T.block ?_|(refine T.reg (by kernel_rfl) fun K' hK'=>?_;simp only [za,zh,List.map_cons,List.map_nil];(repeat' (first|(with_reducible refine WL.fin ?_;refine hK' _ ?_;clear hK' K')|((with_reducible refine WL.step fun K2 hK2=>?_);simp only [simprocAttr,implies_true,amz,tys];(repeat' with_reducible (first|(refine hK2 _ ?_;clear hK2 K2)|refine And.intro ?_ ?_|intro hb))))))|refine T.skip ?_|refine T.exit ?_|refine T.ze rfl ?_|refine T.zf rfl ?_|refine T.cond rfl (fun hc=>?_) (fun hc=>?_)|refine T.ret ?_|simp only [zb,z8,reduceIte,Nat.reduceEqDiff]|((repeat ((fail_if_success (refine hK _ ?_));clear hK K));refine hK _ ?_;clear hK K))
     refine zm.frm _ _ _ _ (fun t=>?_) (by simp only [wks,reduceIte,Nat.reduceEqDiff,implies_true,and_self,frI,hy6,]) (by simp only [wks,AV.okB,Nat.reduceLT,decide_true,List.all_cons,List.all_nil,Bool.and_self,frI,hy6,]) ?_;(focus (first|rfl|(simp only [ownI,List.cons_append];done)));exact z0H hB hl hs (hH _)
    | false =>
     cases k5:(e.kind==5) with
     | true =>
      have hrW:z3K l e s.j = [⟨w,s.j,e.kind⟩]:=by rw [z3K,hW];simp [rdK,k3,k5]
      rw [hrW] at hK hrest
      obtain ⟨lr,sp,fr0,hlk0,hyc0⟩:=hyld acc3 ⟨w,s.j,e.kind⟩ ⟨_,hrest⟩
      simp only [edC,List.map_cons,List.map_nil] at hyc0
      repeat' (first|refine T.zi fun K hK=>?_|refine T.block ?_|refine T.skip ?_|refine T.exit ?_|refine T.ze rfl ?_|refine T.zf rfl ?_|refine T.cond rfl (fun hc=>?_) (fun hc=>?_)|refine T.ret ?_|simp only [zb,z8,reduceIte,Nat.reduceEqDiff]|((repeat ((fail_if_success (refine hK _ ?_));clear hK K));refine hK _ ?_;clear hK K))
      (refine T.reg (by kernel_rfl) fun K' hK'=>?_;simp only [za,zh,List.map_cons,List.map_nil];(repeat' (first|(with_reducible refine WL.fin ?_;refine hK' _ ?_;clear hK' K')|((with_reducible refine WL.step fun K2 hK2=>?_);simp only [simprocAttr,implies_true,amz,tys,hW,k3,k5,z2q,z2o iO iF,z4T nI _ iO iF,nI,qc hB hR ht,z10 hB hR ht,Option.isSome_some];(repeat' with_reducible (first|(refine hK2 _ ?_;clear hK2 K2)|refine And.intro ?_ ?_|intro hb)))));all_goals ((try simp only [zb,z8,reduceIte,Nat.reduceEqDiff]);(try ((repeat ((fail_if_success (refine hK _ ?_));clear hK K));refine hK _ ?_;clear hK K))))
      repeat' (first|refine T.zi fun K hK=>?_|refine T.block ?_|refine T.skip ?_|refine T.exit ?_|refine T.ze rfl ?_|refine T.zf rfl ?_|refine T.cond rfl (fun hc=>?_) (fun hc=>?_)|refine T.ret ?_|simp only [zb,z8,reduceIte,Nat.reduceEqDiff]|((repeat ((fail_if_success (refine hK _ ?_));clear hK K));refine hK _ ?_;clear hK K))
      (refine T.reg (by kernel_rfl) fun K' hK'=>?_;simp only [za,zh,List.map_cons,List.map_nil];(repeat' (first|(with_reducible refine WL.fin ?_;refine hK' _ ?_;clear hK' K')|((with_reducible refine WL.step fun K2 hK2=>?_);simp only [simprocAttr,implies_true,amz,tys,hW,k3,k5,qc hB hR ht];(repeat' with_reducible (first|(refine hK2 _ ?_;clear hK2 K2)|refine And.intro ?_ ?_|intro hb)))));all_goals ((try simp only [zb,z8,reduceIte,Nat.reduceEqDiff]);(try ((repeat ((fail_if_success (refine hK _ ?_));clear hK K));refine hK _ ?_;clear hK K))))
      repeat' (first|refine T.zi fun K hK=>?_|refine T.block ?_|refine T.skip ?_|refine T.exit ?_|refine T.ze rfl ?_|refine T.zf rfl ?_|refine T.cond rfl (fun hc=>?_) (fun hc=>?_)|refine T.ret ?_|simp only [zb,z8,reduceIte,Nat.reduceEqDiff]|((repeat ((fail_if_success (refine hK _ ?_));clear hK K));refine hK _ ?_;clear hK K))
      refine T.regI (by kernel_rfl) fun K' hK'=>?_;simp only [List.map_cons,List.map_nil]
      iterate 6 ((with_reducible refine WLI.z1a fun K2 hK2=>?_);simp only [simprocAttr,implies_true,amz,tys,qc hB hR ht];(repeat' (first|with_reducible (first|(refine hK2 _ ?_;clear hK2 K2)|refine And.intro ?_ ?_|intro hb))))
      (with_reducible refine WLI.z9N fun K2 hK2=>?_);simp only [WSY,WY,simprocAttr,implies_true,amz,tys];(refine z6S.of 2000000 (ownI B l e s) (H (acc3)) (H (acc3 ++ [⟨w,s.j,e.kind⟩])) _ _ _ rfl (z1S hB _ _ _) ?_ (hH _) hyc0 hlk0 (z9n hh _ _) (by decide) (by simp [AV.okB,AV.qx]) ?_);(focus (simp only [z2Y hB,List.map_cons,AO.z3g,AV.qH,List.map_nil,evC];done));refine hK2 _ ?_;clear hK2 K2;(refine WLI.weak (zm.hpe _ (ownI B l e s++H (acc3 ++ [⟨w,s.j,e.kind⟩])) (z5l (z1S hB _ _ _) (hH _))) ?_);simp only [List.map_cons,List.map_nil,AV.qf,AV.qd,AV.zS,AV.qp,AV.qH,AV.ql,AV.zP,AV.zT,AV.qD,AV.qm,AV.qj,Nat.reduceLeDiff,true_or,reduceIte,List.mem_singleton,or_true,ownI,List.cons_append,zD,tys]
      (with_reducible refine WLI.z1a fun K2 hK2=>?_);simp only [simprocAttr,implies_true,amz,tys];(repeat' (first|with_reducible (first|(refine hK2 _ ?_;clear hK2 K2)|refine And.intro ?_ ?_|intro hb)))
      (with_reducible refine WLI.fin ?_);refine hK' _ ?_;clear hK' K';(try simp only [zb,z8,reduceIte,Nat.reduceEqDiff]);(try ((repeat ((fail_if_success (refine hK _ ?_));clear hK K));refine hK _ ?_;clear hK K))
      repeat' (first|refine T.zi fun K hK=>?_|refine T.block ?_|(refine T.reg (by kernel_rfl) fun K' hK'=>?_;simp only [za,zh,List.map_cons,List.map_nil];(repeat' (first|(with_reducible refine WL.fin ?_;refine hK' _ ?_;clear hK' K')|((with_reducible refine WL.step fun K2 hK2=>?_);simp only [simprocAttr,implies_true,amz,tys];(repeat' with_reducible (first|(refine hK2 _ ?_;clear hK2 K2)|refine And.intro ?_ ?_|intro hb))))))|refine T.skip ?_|refine T.exit ?_|refine T.ze rfl ?_|refine T.zf rfl ?_|refine T.cond rfl (fun hc=>?_) (fun hc=>?_)|refine T.ret ?_|simp only [zb,z8,reduceIte,Nat.reduceEqDiff]|((repeat ((fail_if_success (refine hK _ ?_));clear hK K));refine hK _ ?_;clear hK K))
      refine zm.frm _ _ _ _ (fun t=>?_) (by simp only [wks,reduceIte,Nat.reduceEqDiff,implies_true,and_self,frI,hy6,]) (by simp only [wks,AV.okB,Nat.reduceLT,decide_true,List.all_cons,List.all_nil,Bool.and_self,frI,hy6,]) ?_;(focus (first|rfl|(simp only [ownI,List.cons_append];done)));exact z0H hB hl hs (hH _)
     | false =>
      have hrW:z3K l e s.j = []:=by rw [z3K,hW];simp [rdK,k3,k5]
      rw [hrW,List.append_nil] at hK
      repeat' (first|refine T.zi fun K hK=>?_|refine T.block ?_|(refine T.reg (by kernel_rfl) fun K' hK'=>?_;simp only [za,zh,List.map_cons,List.map_nil];(repeat' (first|(with_reducible refine WL.fin ?_;refine hK' _ ?_;clear hK' K')|((with_reducible refine WL.step fun K2 hK2=>?_);simp only [simprocAttr,implies_true,amz,tys,hW,k3,k5,z2q,z2o iO iF,z4T nI _ iO iF,nI,qc hB hR ht,z10 hB hR ht,Option.isSome_some];(repeat' with_reducible (first|(refine hK2 _ ?_;clear hK2 K2)|refine And.intro ?_ ?_|intro hb))))))|refine T.skip ?_|refine T.exit ?_|refine T.ze rfl ?_|refine T.zf rfl ?_|refine T.cond rfl (fun hc=>?_) (fun hc=>?_)|refine T.ret ?_|simp only [zb,z8,reduceIte,Nat.reduceEqDiff]|((repeat ((fail_if_success (refine hK _ ?_));clear hK K));refine hK _ ?_;clear hK K))
      refine zm.frm _ _ _ _ (fun t=>?_) (by simp only [wks,reduceIte,Nat.reduceEqDiff,implies_true,and_self,frI,hy6,]) (by simp only [wks,AV.okB,Nat.reduceLT,decide_true,List.all_cons,List.all_nil,Bool.and_self,frI,hy6,]) ?_;(focus (first|rfl|(simp only [ownI,List.cons_append];done)));exact z0H hB hl hs (hH _)
  intro s' hw
  refine hK s' ?_
  refine T.weak hw ?_
  clear hK hw s' K ht
  obtain ⟨acc4,hacc4⟩ : ∃ a,a=acc3++z3K l e s.j:=⟨_,rfl⟩
  rw [← hacc4]
  have hfin:acc4=z0Z l (s.j+1):=by rw [z4J hx,z5u,hacc4,hacc3,hacc1,hacc];simp only [List.append_assoc]
  have ht:=hH acc4
  rw [hfin] at ht ⊢
  clear hfin hrest hacc4 hacc3 hacc1 hacc
  have hmA:s.a<maxLen:=by have:=hs.a;unfold maxLen;omega
  have hmB:s.b<maxLen:=by have:=hs.b;unfold maxLen;omega
  have hmC:s.c<maxLen:=by have:=hs.c;unfold maxLen;omega
  have hmC1:s.c+1<maxLen:=by have:=hs.c;unfold maxLen;omega
  have hmD:s.d<maxLen:=by have:=hs.d;unfold maxLen;omega
  have hj53:s.j<1152921504606846976:=by omega
  simp only [frI,ownI,List.cons_append]
  cases k14:(e.kind==14) with
  | true =>
   have k4:(e.kind==4)=false:=by simp at k14 ⊢;omega
   have k5:(e.kind==5)=false:=by simp at k14 ⊢;omega
   repeat' (first|refine T.zi fun K hK=>?_|refine T.block ?_|(refine T.reg (by kernel_rfl) fun K' hK'=>?_;simp only [za,zh,List.map_cons,List.map_nil];(repeat' (first|(with_reducible refine WL.fin ?_;refine hK' _ ?_;clear hK' K')|((with_reducible refine WL.step fun K2 hK2=>?_);simp only [simprocAttr,implies_true,amz,tys,hmA,hmB,hmC,hmC1,hmD,z0r,z0l iG,z3o hx,qc hB hR ht,z10 hB hR ht,k14,z0l (iK (by simpa using k14)),zaY hx k14];(repeat' with_reducible (first|(refine hK2 _ ?_;clear hK2 K2)|refine And.intro ?_ ?_|intro hb))))))|refine T.skip ?_|refine T.exit ?_|refine T.ze rfl ?_|refine T.zf rfl ?_|refine T.cond rfl (fun hc=>?_) (fun hc=>?_)|refine T.ret ?_|simp only [zb,z8,reduceIte,Nat.reduceEqDiff]|((repeat ((fail_if_success (refine hK _ ?_));clear hK K));refine hK _ ?_;clear hK K))
   have hs2:ItOk l ⟨s.j+1,s.m,s.R,s.a+1,s.b+1,s.c,s.d⟩:=z6b hs hx (by simp [pubK,k14]) _ _ _ _ (by have:=hs.a;omega) (by have:=hs.b;omega) (by have:=hs.c;omega) (by have:=hs.d;omega)
   refine hKL _ _ ?_ hs2 (by simp only [];omega)
   refine zm.subs _ _ _ _ (fun t o ho=>?_) (by simp only [wks,reduceIte,Nat.reduceEqDiff,implies_true,and_self,hy4,zq hj53]) (by simp only [wks,AV.okB,Nat.reduceLT,decide_true,List.all_cons,List.all_nil,Bool.and_self,hy4]) (z2h hB hl hs2 (hH _));have h1:=(z2h hB hl hs2 (hH _) t o ho).1;simp only [hpI,z5W hx k4 k5] at ho;exact (zl (by omega)).trans ((zl (by omega)).trans ho)
  | false =>
   cases k4:(e.kind==4) with
   | true =>
    have hw:wrAt e.obj e.off e=true:=by simp [wrAt,k4]
    repeat' (first|refine T.zi fun K hK=>?_|refine T.block ?_|(refine T.reg (by kernel_rfl) fun K' hK'=>?_;simp only [za,zh,List.map_cons,List.map_nil];(repeat' (first|(with_reducible refine WL.fin ?_;refine hK' _ ?_;clear hK' K')|((with_reducible refine WL.step fun K2 hK2=>?_);simp only [simprocAttr,implies_true,amz,tys,hmA,hmB,hmC,hmC1,hmD,z0r,z0l iG,z3o hx,qc hB hR ht,z10 hB hR ht,k14,k4,z2q,z2o iO iF,wr_upd hx hw iO iF];(repeat' with_reducible (first|(refine hK2 _ ?_;clear hK2 K2)|refine And.intro ?_ ?_|intro hb))))))|refine T.skip ?_|refine T.exit ?_|refine T.ze rfl ?_|refine T.zf rfl ?_|refine T.cond rfl (fun hc=>?_) (fun hc=>?_)|refine T.ret ?_|simp only [zb,z8,reduceIte,Nat.reduceEqDiff]|((repeat ((fail_if_success (refine hK _ ?_));clear hK K));refine hK _ ?_;clear hK K))
    have hs2:ItOk l ⟨s.j+1,s.m,s.R,s.a+1,s.b,s.c,s.d+1⟩:=z6b hs hx (by simp [pubK,k4]) _ _ _ _ (by have:=hs.a;omega) (by have:=hs.b;omega) (by have:=hs.c;omega) (by have:=hs.d;omega)
    refine hKL _ _ ?_ hs2 (by simp only [];omega)
    refine zm.subs _ _ _ _ (fun t o ho=>?_) (by simp only [wks,reduceIte,Nat.reduceEqDiff,implies_true,and_self,hy4,zq hj53]) (by simp only [wks,AV.okB,Nat.reduceLT,decide_true,List.all_cons,List.all_nil,Bool.and_self,hy4]) (z2h hB hl hs2 (hH _));have h1:=(z2h hB hl hs2 (hH _) t o ho).1;simp only [hpI,z1F hx k14] at ho;exact (zl (by omega)).trans ((zl (by omega)).trans ho)
   | false =>
    cases k5:(e.kind==5) with
    | true =>
     have hw:wrAt e.obj e.off e=true:=by simp [wrAt,k5]
     repeat' (first|refine T.zi fun K hK=>?_|refine T.block ?_|(refine T.reg (by kernel_rfl) fun K' hK'=>?_;simp only [za,zh,List.map_cons,List.map_nil];(repeat' (first|(with_reducible refine WL.fin ?_;refine hK' _ ?_;clear hK' K')|((with_reducible refine WL.step fun K2 hK2=>?_);simp only [simprocAttr,implies_true,amz,tys,hmA,hmB,hmC,hmC1,hmD,z0r,z0l iG,z3o hx,qc hB hR ht,z10 hB hR ht,k14,k4,k5,z2q,z2o iO iF,wr_upd hx hw iO iF];(repeat' with_reducible (first|(refine hK2 _ ?_;clear hK2 K2)|refine And.intro ?_ ?_|intro hb))))))|refine T.skip ?_|refine T.exit ?_|refine T.ze rfl ?_|refine T.zf rfl ?_|refine T.cond rfl (fun hc=>?_) (fun hc=>?_)|refine T.ret ?_|simp only [zb,z8,reduceIte,Nat.reduceEqDiff]|((repeat ((fail_if_success (refine hK _ ?_));clear hK K));refine hK _ ?_;clear hK K))
     have hs2:ItOk l ⟨s.j+1,s.m,s.R,s.a+1,s.b,s.c,s.d+1⟩:=z6b hs hx (by simp [pubK,k5]) _ _ _ _ (by have:=hs.a;omega) (by have:=hs.b;omega) (by have:=hs.c;omega) (by have:=hs.d;omega)
     refine hKL _ _ ?_ hs2 (by simp only [];omega)
     refine zm.subs _ _ _ _ (fun t o ho=>?_) (by simp only [wks,reduceIte,Nat.reduceEqDiff,implies_true,and_self,hy4,zq hj53]) (by simp only [wks,AV.okB,Nat.reduceLT,decide_true,List.all_cons,List.all_nil,Bool.and_self,hy4]) (z2h hB hl hs2 (hH _));have h1:=(z2h hB hl hs2 (hH _) t o ho).1;simp only [hpI,z1F hx k14] at ho;exact (zl (by omega)).trans ((zl (by omega)).trans ho)
    | false =>
     cases k1:(e.kind==1) with
     | true =>
      repeat' (first|refine T.zi fun K hK=>?_|refine T.block ?_|(refine T.reg (by kernel_rfl) fun K' hK'=>?_;simp only [za,zh,List.map_cons,List.map_nil];(repeat' (first|(with_reducible refine WL.fin ?_;refine hK' _ ?_;clear hK' K')|((with_reducible refine WL.step fun K2 hK2=>?_);simp only [simprocAttr,implies_true,amz,tys,hmA,hmB,hmC,hmC1,hmD,z0r,z0l iG,z3o hx,qc hB hR ht,z10 hB hR ht,k14,k4,k5,k1];(repeat' with_reducible (first|(refine hK2 _ ?_;clear hK2 K2)|refine And.intro ?_ ?_|intro hb))))))|refine T.skip ?_|refine T.exit ?_|refine T.ze rfl ?_|refine T.zf rfl ?_|refine T.cond rfl (fun hc=>?_) (fun hc=>?_)|refine T.ret ?_|simp only [zb,z8,reduceIte,Nat.reduceEqDiff]|((repeat ((fail_if_success (refine hK _ ?_));clear hK K));refine hK _ ?_;clear hK K))
      have hs2:ItOk l ⟨s.j+1,s.m,s.R,s.a+1,s.b,s.c,s.d⟩:=z6b hs hx (by simp [pubK,k1]) _ _ _ _ (by have:=hs.a;omega) (by have:=hs.b;omega) (by have:=hs.c;omega) (by have:=hs.d;omega)
      refine hKL _ _ ?_ hs2 (by simp only [];omega)
      refine zm.subs _ _ _ _ (fun t o ho=>?_) (by simp only [wks,reduceIte,Nat.reduceEqDiff,implies_true,and_self,hy4,zq hj53]) (by simp only [wks,AV.okB,Nat.reduceLT,decide_true,List.all_cons,List.all_nil,Bool.and_self,hy4]) (z2h hB hl hs2 (hH _));have h1:=(z2h hB hl hs2 (hH _) t o ho).1;simp only [hpI,z1F hx k14,z5W hx k4 k5] at ho;exact (zl (by omega)).trans ((zl (by omega)).trans ho)
     | false =>
      cases k2:(e.kind==2) with
      | true =>
       repeat' (first|refine T.zi fun K hK=>?_|refine T.block ?_|(refine T.reg (by kernel_rfl) fun K' hK'=>?_;simp only [za,zh,List.map_cons,List.map_nil];(repeat' (first|(with_reducible refine WL.fin ?_;refine hK' _ ?_;clear hK' K')|((with_reducible refine WL.step fun K2 hK2=>?_);simp only [simprocAttr,implies_true,amz,tys,hmA,hmB,hmC,hmC1,hmD,z0r,z0l iG,z3o hx,qc hB hR ht,z10 hB hR ht,k14,k4,k5,k1,k2];(repeat' with_reducible (first|(refine hK2 _ ?_;clear hK2 K2)|refine And.intro ?_ ?_|intro hb))))))|refine T.skip ?_|refine T.exit ?_|refine T.ze rfl ?_|refine T.zf rfl ?_|refine T.cond rfl (fun hc=>?_) (fun hc=>?_)|refine T.ret ?_|simp only [zb,z8,reduceIte,Nat.reduceEqDiff]|((repeat ((fail_if_success (refine hK _ ?_));clear hK K));refine hK _ ?_;clear hK K))
       have hs2:ItOk l ⟨s.j+1,s.m,s.R,s.a+1,s.b,s.c,s.d⟩:=z6b hs hx (by simp [pubK,k2]) _ _ _ _ (by have:=hs.a;omega) (by have:=hs.b;omega) (by have:=hs.c;omega) (by have:=hs.d;omega)
       refine hKL _ _ ?_ hs2 (by simp only [];omega)
       refine zm.subs _ _ _ _ (fun t o ho=>?_) (by simp only [wks,reduceIte,Nat.reduceEqDiff,implies_true,and_self,hy4,zq hj53]) (by simp only [wks,AV.okB,Nat.reduceLT,decide_true,List.all_cons,List.all_nil,Bool.and_self,hy4]) (z2h hB hl hs2 (hH _));have h1:=(z2h hB hl hs2 (hH _) t o ho).1;simp only [hpI,z1F hx k14,z5W hx k4 k5] at ho;exact (zl (by omega)).trans ((zl (by omega)).trans ho)
      | false =>
       cases k3:(e.kind==3) with
       | true =>
        repeat' (first|refine T.zi fun K hK=>?_|refine T.block ?_|(refine T.reg (by kernel_rfl) fun K' hK'=>?_;simp only [za,zh,List.map_cons,List.map_nil];(repeat' (first|(with_reducible refine WL.fin ?_;refine hK' _ ?_;clear hK' K')|((with_reducible refine WL.step fun K2 hK2=>?_);simp only [simprocAttr,implies_true,amz,tys,hmA,hmB,hmC,hmC1,hmD,z0r,z0l iG,z3o hx,qc hB hR ht,z10 hB hR ht,k14,k4,k5,k1,k2,k3];(repeat' with_reducible (first|(refine hK2 _ ?_;clear hK2 K2)|refine And.intro ?_ ?_|intro hb))))))|refine T.skip ?_|refine T.exit ?_|refine T.ze rfl ?_|refine T.zf rfl ?_|refine T.cond rfl (fun hc=>?_) (fun hc=>?_)|refine T.ret ?_|simp only [zb,z8,reduceIte,Nat.reduceEqDiff]|((repeat ((fail_if_success (refine hK _ ?_));clear hK K));refine hK _ ?_;clear hK K))
        have hs2:ItOk l ⟨s.j+1,s.m,s.R,s.a+1,s.b,s.c,s.d⟩:=z6b hs hx (by simp [pubK,k3]) _ _ _ _ (by have:=hs.a;omega) (by have:=hs.b;omega) (by have:=hs.c;omega) (by have:=hs.d;omega)
        refine hKL _ _ ?_ hs2 (by simp only [];omega)
        refine zm.subs _ _ _ _ (fun t o ho=>?_) (by simp only [wks,reduceIte,Nat.reduceEqDiff,implies_true,and_self,hy4,zq hj53]) (by simp only [wks,AV.okB,Nat.reduceLT,decide_true,List.all_cons,List.all_nil,Bool.and_self,hy4]) (z2h hB hl hs2 (hH _));have h1:=(z2h hB hl hs2 (hH _) t o ho).1;simp only [hpI,z1F hx k14,z5W hx k4 k5] at ho;exact (zl (by omega)).trans ((zl (by omega)).trans ho)
       | false =>
        have hpk:pubK e.kind=true:=by simp [pubK,k14,k4,k5,k1,k2,k3]
        cases hM:s.m e.obj e.off with
        | some i =>
         obtain ⟨r,hr⟩ : ∃ r,r=atL l e.obj e.off s.j:=⟨_,rfl⟩
         have hrow:=hs.row _ _ _ hM
         rw [← hr] at hrow
         have hrw:=tl_row (B:=B) ht (z8u hrow)
         have hat:atM B s.m (kyl e.obj e.off)=some (.own (i+B)):=by rw [atM,z7G _ iO iF,hM];rfl
         have hi6:i<1000000:=by have:=(List.getElem?_eq_some_iff.1 hrow).1;have:=hs.R;have:=hs.j;omega
         have hR2:(List.map qL (s.R.set i (r ++ [s.j]))).length≤1000000:=by rw [List.length_map,List.length_set];have:=hs.R;have:=hs.j;omega
         have pyi:(y=i+B)=False:=by simp;omega
         have n0:(i+B=5000000)=False:=by simp;omega
         have m0:(5000000=i+B)=False:=by simp;omega
         have n1:(i+B=5000001)=False:=by simp;omega
         have m1:(5000001=i+B)=False:=by simp;omega
         have n2:(i+B=5000002)=False:=by simp;omega
         have m2:(5000002=i+B)=False:=by simp;omega
         have n3:(i+B=5000003)=False:=by simp;omega
         have m3:(5000003=i+B)=False:=by simp;omega
         have n4:(i+B=5000004)=False:=by simp;omega
         have m4:(5000004=i+B)=False:=by simp;omega
         have n5:(i+B=5000005)=False:=by simp;omega
         have m5:(5000005=i+B)=False:=by simp;omega
         have n6:(i+B=5000006)=False:=by simp;omega
         have m6:(5000006=i+B)=False:=by simp;omega
         have hrn:r.length≤1000000:=by
          rw [hr]
          have:=List.length_filter_le (fun k=>(l[k]?).any (z5y e.obj e.off)) (List.range s.j)
          rw [List.length_range] at this
          have h2:=hs.j
          unfold atL
          omega
         have hb0 : 1≤maxLen:=by unfold maxLen;omega
         have hb1:r.length+1≤maxLen:=by unfold maxLen;omega
         have hb2:(r.length+1)*8≤140737488355328:=by omega
         have hsub:=tl_sub (B:=B) (R:=s.R.map qL) ht (t:=i+B) AV.zH (by omega)
         have hset:=tl_setI (B:=B) hB (R:=s.R.map qL) ht i (qL (r ++ [s.j]))
         repeat' (first|refine T.zi fun K hK=>?_|refine T.block ?_|(refine T.reg (by kernel_rfl) fun K' hK'=>?_;simp only [za,zh,List.map_cons,List.map_nil];(repeat' (first|(with_reducible refine WL.fin ?_;refine hK' _ ?_;clear hK' K')|((with_reducible refine WL.step fun K2 hK2=>?_);simp only [simprocAttr,implies_true,amz,tys,hmA,hmB,hmC,hmC1,hmD,z0r,z0l iG,z3o hx,qc hB hR ht,z10 hB hR ht,k14,k4,k5,k1,k2,k3,z2q,z2o iO iF,hat,hrw,z06,hb0,hb1,hb2,hsub,hset,z1y,rowsI_set,AO.zaz,atM_old hs hM iO iF,pyi,z10 hB hR2 ht,qc hB hR2 ht,n0,n1,n2,n3,n4,n5,n6,m0,m1,m2,m3,m4,m5,m6];(repeat' with_reducible (first|(refine hK2 _ ?_;clear hK2 K2)|refine And.intro ?_ ?_|intro hb))))))|refine T.skip ?_|refine T.exit ?_|refine T.ze rfl ?_|refine T.zf rfl ?_|refine T.cond rfl (fun hc=>?_) (fun hc=>?_)|refine T.ret ?_|simp only [zb,z8,reduceIte,Nat.reduceEqDiff]|((repeat ((fail_if_success (refine hK _ ?_));clear hK K));refine hK _ ?_;clear hK K))
         have hs2:ItOk l ⟨s.j+1,s.m,s.R.set i (r ++ [s.j]),s.a+1,s.b,s.c+1+1,s.d⟩:=by
          rw [hr]
          exact it_old hs hx hpk hM _ _ _ _ (by have:=hs.a;omega) (by have:=hs.b;omega) (by have:=hs.c;omega) (by have:=hs.d;omega)
         refine hKL _ _ ?_ hs2 (by simp only [];omega)
         refine zm.subs _ _ _ _ (fun t o ho=>?_) (by simp only [wks,reduceIte,Nat.reduceEqDiff,implies_true,and_self,hy4,zq hj53]) (by simp only [wks,AV.okB,Nat.reduceLT,decide_true,List.all_cons,List.all_nil,Bool.and_self,hy4]) (z2h hB hl hs2 (hH _));have h1:=(z2h hB hl hs2 (hH _) t o ho).1;simp only [hpI,z1F hx k14,z5W hx k4 k5] at ho;exact (zl (by omega)).trans ((zl (by omega)).trans ho)
        | none =>
         have hat:atM B s.m (kyl e.obj e.off)=none:=by rw [atM,z7G _ iO iF,hM];rfl
         have hb1 : 1≤maxLen:=by unfold maxLen;omega
         repeat' (first|refine T.zi fun K hK=>?_|refine T.block ?_|(refine T.reg (by kernel_rfl) fun K' hK'=>?_;simp only [za,zh,List.map_cons,List.map_nil];(repeat' (first|(with_reducible refine WL.fin ?_;refine hK' _ ?_;clear hK' K')|((with_reducible refine WL.step fun K2 hK2=>?_);simp only [simprocAttr,implies_true,amz,tys,hmA,hmB,hmC,hmC1,hmD,z0r,z0l iG,z3o hx,qc hB hR ht,z10 hB hR ht,k14,k4,k5,k1,k2,k3,z2q,z2o iO iF,hat,hb1];(repeat' with_reducible (first|(refine hK2 _ ?_;clear hK2 K2)|refine And.intro ?_ ?_|intro hb))))))|refine T.skip ?_|refine T.exit ?_|refine T.ze rfl ?_|refine T.zf rfl ?_|refine T.cond rfl (fun hc=>?_) (fun hc=>?_)|refine T.ret ?_|simp only [zb,z8,reduceIte,Nat.reduceEqDiff]|((repeat ((fail_if_success (refine hK _ ?_));clear hK K));refine hK _ ?_;clear hK K))
         have hs2:ItOk l ⟨s.j+1,updN s.m e.obj e.off s.R.length,s.R ++ [[s.j]],s.a+1,s.b,s.c+1+1,s.d⟩:=it_new hs hx hpk hM _ _ _ _ (by have:=hs.a;omega) (by have:=hs.b;omega) (by have:=hs.c;omega) (by have:=hs.d;omega)
         have hR1:s.R.length≤1000000:=by have:=hs.R;have:=hs.j;omega
         have hz1:(s.R.length+B<5000007)=True:=by simp;omega
         have p0:(5000000=s.R.length+B)=False:=by simp;omega
         have q0:(5000000 != s.R.length+B)=true:=by simp;omega
         have p1:(5000001=s.R.length+B)=False:=by simp;omega
         have q1:(5000001 != s.R.length+B)=true:=by simp;omega
         have p2:(5000002=s.R.length+B)=False:=by simp;omega
         have q2:(5000002 != s.R.length+B)=true:=by simp;omega
         have p3:(5000003=s.R.length+B)=False:=by simp;omega
         have q3:(5000003 != s.R.length+B)=true:=by simp;omega
         have p4:(5000004=s.R.length+B)=False:=by simp;omega
         have q4:(5000004 != s.R.length+B)=true:=by simp;omega
         have p5:(5000005=s.R.length+B)=False:=by simp;omega
         have q5:(5000005 != s.R.length+B)=true:=by simp;omega
         have p6:(5000006=s.R.length+B)=False:=by simp;omega
         have q6:(5000006 != s.R.length+B)=true:=by simp;omega
         have hne:=tl_ne2 (B:=B) hB hR ht (t := 5000006) (by omega)
         rw [List.length_map] at hne
         have hren:=tl_ren (B:=B) (R:=s.R.map qL) ht (t := 5000006) (t':=s.R.length+B) (by omega) (by omega)
         have py:(y=5000006)=False:=by simp;omega
         have pz:(y=s.R.length+B)=False:=by simp;omega
         refine hKL _ _ ((zm.ren _ 5000006 (s.R.length+B)).trans ?_) hs2 (by simp only [];omega)
         simp only [ASt.ren,AV.z07,AV.z0O,AV.z0B,AV.z1g,AV.z3b,AV.z1d,AV.z0v,AV.z0u,AV.z2u,AV.z1i,AV.z1e,AO.z1t,AO.z0D,AO.z1E,AO.z1K,List.map_cons,List.map_nil,List.filter_cons,List.filter_nil,zC,qB,reduceIte,Nat.reduceEqDiff,Nat.reduceLT,Nat.reduceBneDiff,bne_self_eq_false,Bool.and_true,Bool.and_false,Bool.true_and,Bool.false_and,Bool.and_self,Bool.false_eq_true,ne_eq,not_false_eq_true,not_true_eq_false,and_self,and_true,true_and,and_false,AO.ren_amap,atM_new hB hl hs _ iO iF,hne,hren,hz1,py,pz,p0,p1,p2,p3,p4,p5,p6,q0,q1,q2,q3,q4,q5,q6]
         refine zm.subs _ _ _ _ (fun t o ho=>?_) (by simp only [wks,reduceIte,Nat.reduceEqDiff,implies_true,and_self,hy4,zq hj53]) (by simp only [wks,AV.okB,Nat.reduceLT,decide_true,List.all_cons,List.all_nil,Bool.and_self,hy4]) (z2h hB hl hs2 (hH _))
         have h1:=(z2h hB hl hs2 (hH _) t o ho).1
         simp only [hpI,z1F hx k14,z5W hx k4 k5] at ho
         rw [hpI_new hB _ _ _ _ hR1] at ho
         exact (skip2 (by omega) (by omega)).trans ho
 ·have hd:decide ((s.j:Int)<(l.length:Int))=false:=by simpa using hlt
  have hjl:s.j=l.length:=by have:=hs.j;omega
  simp only [hpI]
  repeat' (first|refine T.zi fun K hK=>?_|refine T.block ?_|(refine T.reg (by kernel_rfl) fun K' hK'=>?_;simp only [za,zh,List.map_cons,List.map_nil];(repeat' (first|(with_reducible refine WL.fin ?_;refine hK' _ ?_;clear hK' K')|((with_reducible refine WL.step fun K2 hK2=>?_);simp only [simprocAttr,implies_true,amz,tys,hd];(repeat' with_reducible (first|(refine hK2 _ ?_;clear hK2 K2)|refine And.intro ?_ ?_|intro hb))))))|refine T.skip ?_|refine T.exit ?_|refine T.ze rfl ?_|refine T.zf rfl ?_|refine T.cond rfl (fun hc=>?_) (fun hc=>?_)|refine T.ret ?_|simp only [zb,z8,reduceIte,Nat.reduceEqDiff]|((repeat ((fail_if_success (refine hK _ ?_));clear hK K));refine hK _ ?_;clear hK K))
  refine FinM.ret (s':=⟨[],H (z0Z l l.length),190,2000000⟩) (r := .tup []) (.inl rfl) Try.results52 (zm.subs _ _ _ _ (fun t o ho=>?_) (by simp) (by simp) (fun t o h=>(hH _).at' h)) rfl rfl ⟨rfl,rfl⟩
  rw [← hjl] at ho
  exact (lk_end hB ((hH _).at' ho).1 _ _ _ _ _ _).trans ho
theorem T.rangeFS {P:Program} {Q:Exit→ASt→Prop} {s:ASt} {g:Operand} {ps:Array Tmp} {assign body:Code} (gf:FuncId) (caps:List AV) (fr:List (Nat × AV)) (hg:s.ev g = .fn (.func gf) caps) (he:Ent P gf) (hfr : ∀ p ∈ fr,s.get p.1=p.2)
  (hc : ∀ l sp,sp.n=s.n→sp.ps=ps→sp.assign=assign→sp.body=body → ∃ n hp I ks,MemC P gf n hp (.own s.N :: caps) I∧Passes (s.add (.lrec l sp fr)) n hp∧((AV.own s.N :: caps).all (·.okB n))=true ∧ ∀ hp' r,I hp' r→(∀ t ∈ ks,t<n→Kept hp hp' t)∧(∃ fr',hp'.lookup s.N=some (.lrec l sp fr')) ∧
   ∀ ob,Q .normal { (s.add (.lrec l sp fr)).z0i n ks hp' with hp:=zM ((s.add (.lrec l sp fr)).z0i n ks hp').hp s.N (.raw (.func (.yield l) #[] #[]) ob) }):T Fence.wide P (.rangeFunc g ps assign body) Q s :=
 T.rangeF gf caps fr hg he hfr fun l fn D=>hc l ⟨s.n,fn,ps,assign,body,D⟩ rfl rfl rfl rfl
theorem HRel.congr {L:Nat→Prop} {N:Nat} {hp hp' : Hp} {loc:Nat→Option Value} {w:World} (h:HRel L N hp loc w) (e : ∀ t,hp'.lookup t=hp.lookup t):HRel L N hp' loc w:=⟨fun t o ho=>h.at' t o (e t ▸ ho),fun t ho=>h.dead t (e t ▸ ho),h.apart,h.inL,h.notL⟩
theorem mat_one (e n:Nat) : ∀ (R:List (List (List PV))) (b:Nat),∀ p ∈ mat e n b R,(mat e n b R).lookup p.1=some p.2
 | [],b,p,h=>by cases h
 | r :: R,b,p,h=>by
  rcases List.mem_cons.1 h with h|h
  ·subst h;rw [mat,zt]
  ·have h1:=(z2p e n R (b+1) p h).1
   rw [mat,zl (by omega)]
   exact mat_one e n R (b+1) p h
theorem HpOk.mat {n e m b:Nat} {R:List (List (List PV))} (h:b+R.length≤n):HpOk n (mat e m b R) :=
 ⟨fun p hp=>by
  obtain ⟨h1,h2,r,_,h3⟩:=z2p e m R b p hp
  rw [h3];exact ⟨by omega,rfl⟩,mat_one e m R b⟩
theorem HpOk.cons {n t:Nat} {o:AO} {hp:Hp} (h:HpOk n hp) (ht:t<n) (ho:o.okB n=true) (hn:hp.lookup t=Option.none):HpOk n ((t,o) :: hp) :=
 ⟨fun p hp=>by
  rcases List.mem_cons.1 hp with rfl|h1
  ·exact ⟨ht,ho⟩
  ·exact h.ok p h1,fun p hp=>by
  rcases List.mem_cons.1 hp with rfl|h1
  ·rw [zt]
  ·rw [zl,h.one p h1]
   intro e
   have:=h.one p h1
   rw [e,hn] at this
   cases this⟩
def idM:Nat→Nat→Bool:=fun a b=>b==a
def addE (f:Nat→Nat→Bool) (x:Ed):Nat→Nat→Bool:=fun a b=>if a=x.t.toNat then f a b||(decide (b≤x.f.toNat)&&f x.f.toNat b) else f a b
def fC (acc:List Ed):Nat→Nat→Bool:=acc.foldl addE idM
theorem z92 (l:List Ev):zu Try.prog 41 [.p (.seq 9 (l.map evC))] (.fn (.func 52) [.elt [.seq 9 (l.map evC)] 0]):=by
 refine zu.of Try.func41 rfl 4 rfl (by decide) (by simp [AV.okB]) ?_
 repeat' (first|refine T.zi fun K hK=>?_|refine T.block ?_|(refine T.reg (by kernel_rfl) fun K' hK'=>?_;simp only [za,zh,List.map_cons,List.map_nil];(repeat' (first|(with_reducible refine WL.fin ?_;refine hK' _ ?_;clear hK' K')|((with_reducible refine WL.step fun K2 hK2=>?_);simp only [simprocAttr,implies_true,amz,tys];(repeat' with_reducible (first|(refine hK2 _ ?_;clear hK2 K2)|refine And.intro ?_ ?_|intro hb))))))|refine T.skip ?_|refine T.exit ?_|refine T.ze rfl ?_|refine T.zf rfl ?_|refine T.cond rfl (fun hc=>?_) (fun hc=>?_)|refine T.ret ?_|simp only [zb,z8,reduceIte,Nat.reduceEqDiff]|((repeat ((fail_if_success (refine hK _ ?_));clear hK K));refine hK _ ?_;clear hK K))
 refine zx.retW (.inr rfl) Try.results41 (zm.dat _ 0 none 22 [.seq 9 (l.map evC)] rfl) ?_
 simp only [zw,zo,zn,AV.z9j,AV.z9M,AV.dat_p,AV.dat_fn,List.map_cons,List.map_nil,reduceIte,simprocAttr,implies_true,amz]
end Go.Proofs.Ytdlgoofjechocaa
