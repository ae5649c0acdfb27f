/- Texts Qc, Pf, Sm, Ay, Po, Pp, Az, Pq, Ps, Pe, Pg. -/
import Derived.Maps.OwnSet
import Derived.DeepKeys4
import Derived.Test.YtdlgoofjechocaaZ06
set_option maxHeartbeats 32000000
set_option maxRecDepth 100000
set_option linter.unusedSimpArgs false
set_option linter.unusedVariables false
namespace Go.Proofs.Ytdlgoofjechocaa
open Go.RowKit Go.Sort
structure Pv (s:Ps):Prop where
 ev0 : 0≤s.ev
 gor1 : 1≤s.gor
 gor2:s.gor≤s.ev+1
 kinds : ∀ x ∈ s.op.kinds,15≤x∧x≤18
 has:s.op.kinds ≠ [] → ∃ c,s.ch s.op.obj=some c∧c.cap=s.op.n
theorem pv0:Pv ps0:=⟨Int.le_refl _,Int.le_refl _,by decide,fun x h=>(by cases h),fun h=>absurd rfl h⟩
structure St1 (s:Ps) (e:Ev) (t:Ps):Prop where
 ev:t.ev=s.ev
 gor:(e.kind=14∧e.k=s.gor∧t.gor=wI (s.gor+1))∨(e.kind ≠ 14∧t.gor=s.gor)
 kinds : ∀ x ∈ t.op.kinds,15≤x∧x≤18
 has:t.op.kinds ≠ [] → ∃ c,t.ch t.op.obj=some c∧c.cap=t.op.n
 keep : ∀ o c,s.ch o=some c → ∃ c',t.ch o=some c' ∧ c'.cap=c.cap
 cap:qD e.kind=true→(∃ c,t.ch e.obj=some c∧c.cap=e.n) ∧ ∀ c,s.ch e.obj=some c→c.cap=e.n
theorem z1E (c:Ch) (k:Int):(z07 c k).cap=c.cap:=by
 unfold z07
 split
 ·rfl
 ·split <;> rfl
theorem proc_st {s:Ps} (h:Pv s) {kd:Int} {r:List Int} (hk:s.op.kinds=kd :: r) {e:Ev} {t:Ps} (ht:z2I s kd r e=some t):St1 s e t:=by
 unfold z2I at ht
 split at ht
 ·rename_i hc
  cases ht
  obtain ⟨hf,_⟩:=hc
  simp only [fitP,Bool.not_eq_true',Bool.or_eq_false_iff,bne_eq_false_iff_eq] at hf
  obtain ⟨⟨⟨f1,f2⟩,f3⟩,f4⟩:=hf
  have hkd:=h.kinds kd (by rw [hk];simp)
  obtain ⟨c,hc1,hc2⟩:=h.has (by rw [hk];simp)
  have hop:(z0N s.op e r).kinds=r∧(z0N s.op e r).obj=s.op.obj∧(z0N s.op e r).n=s.op.n:=by unfold z0N;split <;> exact ⟨rfl,rfl,rfl⟩
  have hch : ∀ o,(countP (z0J s (z0N s.op e r)) e).ch o=if o=e.obj then some (z07 c e.kind) else s.ch o:=fun o=>by
   simp only [countP,z0g,z0J]
   rw [f2,hc1];rfl
  refine ⟨rfl,.inr ⟨by omega,rfl⟩,fun x hx=>?_,fun hne=>?_,fun o c' ho=>?_,fun _=>⟨⟨z07 c e.kind,by rw [hch,if_pos rfl],by rw [z1E,hc2,f4]⟩,fun c' hc'=>?_⟩⟩
  ·have hx' : x ∈ r:=by have:=hop.1;simp only [countP,z0g,z0J] at hx;rw [this] at hx;exact hx
   exact h.kinds x (by rw [hk];simp [hx'])
  ·refine ⟨z07 c e.kind,?_,?_⟩
   ·rw [hch]
    have:(countP (z0J s (z0N s.op e r)) e).op.obj=e.obj:=by show (z0N s.op e r).obj=e.obj;rw [hop.2.1,f2]
    rw [this,if_pos rfl]
   ·rw [z1E,hc2]
    exact hop.2.2.symm
  ·rw [hch]
   split
   ·rename_i e1
    rw [e1,f2,hc1] at ho
    cases ho
    exact ⟨_,rfl,z1E _ _⟩
   ·exact ⟨c',ho,rfl⟩
  ·rw [f2,hc1] at hc'
   cases hc'
   rw [hc2,f4]
 ·cases ht
theorem z9y {s:Ps} {e:Ev} (he:e.kind=15∨e.kind=17) (hcap:(qA s e).cap=e.n) (kinds:List Int) (hk : ∀ x ∈ kinds,15≤x∧x≤18) (snd rcv:Int):St1 s e (z1X s e (qA s e) kinds snd rcv):=by
 have hch : ∀ o,(z1X s e (qA s e) kinds snd rcv).ch o=if o=e.obj then some (z07 (qA s e) e.kind) else s.ch o:=fun o=>by
  simp only [z1X,countP,z0g,z0J,if_true,Option.getD_some]
  split
  ·rfl
  ·rename_i h;rfl
 refine ⟨rfl,.inr ⟨by omega,rfl⟩,hk,fun _=>⟨z07 (qA s e) e.kind,?_,by rw [z1E,hcap];rfl⟩,fun o c ho=>?_,fun _=>⟨⟨_,by rw [hch,if_pos rfl],by rw [z1E,hcap]⟩,fun c hc=>?_⟩⟩
 ·rw [hch];exact if_pos rfl
 ·rw [hch]
  split
  ·rename_i e1
   subst e1
   exact ⟨_,rfl,by rw [z1E];simp [qA,ho]⟩
  ·exact ⟨c,ho,rfl⟩
 ·rw [qA,hc] at hcap;exact hcap
theorem oper_st {s:Ps} (hn:s.op.kinds = []) {e:Ev} {t:Ps} (ht:z0l s e=some t):St1 s e t:=by
 unfold z0l at ht
 split at ht
 ·cases ht
 ·rename_i hcap
  have hcap' : (qA s e).cap=e.n:=by simpa using hcap
  have hold : ∀ c,s.ch e.obj=some c→c.cap=e.n:=fun c hc=>by rw [qA,hc] at hcap';exact hcap'
  split at ht
  ·rename_i hk
   split at ht
   ·cases ht
   ·cases ht
    have hch : ∀ o,(z0g s e.obj { qA s e with closed:=true }).ch o=if o=e.obj then some { qA s e with closed:=true } else s.ch o:=fun o=>rfl
    refine ⟨rfl,.inr ⟨by simp at hk;omega,rfl⟩,fun x hx=>?_,fun hne=>absurd hn hne,fun o c ho=>?_,fun _=>⟨⟨{ qA s e with closed:=true },by rw [hch,if_pos rfl],hcap'⟩,hold⟩⟩
    ·rw [show (z0g s e.obj { qA s e with closed:=true }).op.kinds=s.op.kinds from rfl,hn] at hx;cases hx
    ·rw [hch]
     split
     ·rename_i e1;subst e1;exact ⟨_,rfl,by simp [qA,ho]⟩
     ·exact ⟨c,ho,rfl⟩
  ·split at ht
   ·rename_i hk
    split at ht
    ·rename_i hcl
     cases ht
     have : ∃ c,s.ch e.obj=some c:=by
      cases hc:s.ch e.obj with
      | some c=>exact ⟨c,rfl⟩
      | none=>simp [qA,hc,ch0] at hcl
     obtain ⟨c,hc⟩:=this
     refine ⟨rfl,.inr ⟨by simp at hk;omega,rfl⟩,fun x hx=>?_,fun hne=>absurd hn hne,fun o c ho=>⟨c,ho,rfl⟩,fun _=>⟨⟨c,hc,hold c hc⟩,hold⟩⟩
     rw [hn] at hx;cases hx
    ·cases ht
   ·split at ht
    ·rename_i hk
     have hk' : e.kind=15∨e.kind=17 := .inl (by simpa using hk)
     repeat' (split at ht)
     all_goals first|(cases ht;done)|(cases ht;exact z9y hk' hcap' _ (by simp) _ _)
    ·split at ht
     ·rename_i hk
      have hk' : e.kind=15∨e.kind=17 := .inr (by simpa using hk)
      repeat' (split at ht)
      all_goals first|(cases ht;done)|(cases ht;exact z9y hk' hcap' _ (by simp) _ _)
     ·cases ht
theorem simp_st {s:Ps} (hn:s.op.kinds = []) {e:Ev} (hc:qD e.kind=false) {t:Ps} (ht:z0m s e=some t):St1 s e t:=by
 have key:t.ev=s.ev∧t.ch=s.ch∧t.op=s.op∧((e.kind=14∧e.k=s.gor∧t.gor=wI (s.gor+1))∨(e.kind ≠ 14∧t.gor=s.gor)):=by
  unfold z0m at ht
  by_cases h14:e.kind=14
  ·simp only [h14] at ht
   simp at ht
   obtain ⟨h1,rfl⟩:=ht
   exact ⟨rfl,rfl,rfl,.inl ⟨h14,h1,rfl⟩⟩
  ·have h14' : (e.kind==14)=false:=by simpa using h14
   simp only [h14',Bool.false_eq_true,if_false] at ht
   repeat' (split at ht)
   all_goals first|(cases ht;done)|(cases ht;exact ⟨rfl,rfl,rfl,.inr ⟨h14,rfl⟩⟩)
 obtain ⟨k1,k2,k3,k4⟩:=key
 refine ⟨k1,k4,fun x hx=>?_,fun hne=>?_,fun o c ho=>⟨c,by rw [k2];exact ho,rfl⟩,fun h=>by rw [hc] at h;cases h⟩
 ·rw [k3,hn] at hx;cases hx
 ·rw [k3] at hne;exact absurd hn hne
theorem step_st {s:Ps} (h:Pv s) {e:Ev} {t:Ps} (ht:z0z s e=some t):St1 s e t:=by
 unfold z0z at ht
 split at ht
 ·rename_i kd r hk;exact proc_st h hk ht
 ·rename_i hk
  split at ht
  ·exact oper_st hk ht
  ·rename_i hc;exact simp_st hk (by simpa using hc) ht
structure St2 (s:Ps) (e:Ev) (t:Ps):Prop where
 pv:Pv t
 gor:(e.kind=14∧e.k=s.gor∧t.gor=s.gor+1)∨(e.kind ≠ 14∧t.gor=s.gor)
 keep : ∀ o c,s.ch o=some c → ∃ c',t.ch o=some c' ∧ c'.cap=c.cap
 cap:qD e.kind=true→(∃ c,t.ch e.obj=some c∧c.cap=e.n) ∧ ∀ c,s.ch e.obj=some c→c.cap=e.n
 lt:e.g<s.gor
theorem add_st {s:Ps} (h:Pv s) {e:Ev} {t:Ps} (ht:addP s e=some t):St2 s e t:=by
 unfold addP at ht
 split at ht
 ·cases ht
 ·rename_i hn
  simp only [z4D,Bool.or_eq_true,decide_eq_true_eq,not_or] at hn
  obtain ⟨⟨_,n2⟩,n3⟩:=hn
  obtain ⟨u,hu,rfl⟩:=Option.map_eq_some_iff.1 ht
  have hs:=step_st h hu
  have h1:=h.ev0
  have h2:=h.gor1
  have h3:=h.gor2
  have he:wI (u.ev+1)=s.ev+1:=by rw [hs.ev];simp only [wI,IntKind.wrap_i64];omega
  have hg:(e.kind=14∧e.k=s.gor∧u.gor=s.gor+1)∨(e.kind ≠ 14∧u.gor=s.gor):=by
   rcases hs.gor with ⟨g1,g2,g3⟩|g
   ·refine .inl ⟨g1,g2,?_⟩
    rw [g3];simp only [wI,IntKind.wrap_i64];omega
   ·exact .inr g
  refine ⟨⟨?_,?_,?_,hs.kinds,hs.has⟩,hg,hs.keep,hs.cap,by omega⟩
  ·show 0≤wI (u.ev+1);omega
  ·show 1≤u.gor;rcases hg with g|g <;> omega
  ·show u.gor≤wI (u.ev+1)+1;rcases hg with g|g <;> omega
theorem goP_at : ∀ {l:List Ev} {s:Ps},goP s l=true→Pv s → ∀ {i:Nat} {x:Ev},l[i]? = some x → ∃ si ti,Pv si∧St2 si x ti∧goP ti (l.drop (i+1))=true
 | [],s,_,_,i,x,hx=>by simp at hx
 | e :: r,s,hg,hp,i,x,hx=>by
  rw [goP] at hg
  cases ha:addP s e with
  | none=>rw [ha] at hg;cases hg
  | some t =>
   rw [ha] at hg
   have h2:=add_st hp ha
   cases i with
   | zero =>
    cases hx
    exact ⟨s,t,hp,h2,hg⟩
   | succ i=>exact goP_at hg h2.pv hx
theorem goP_gor : ∀ {l:List Ev} {s:Ps},goP s l=true→Pv s → ∀ e ∈ l,e.kind=14→s.gor≤e.k
 | [],s,_,_,e,h=>by cases h
 | x :: r,s,hg,hp,e,h=>by
  rw [goP] at hg
  cases ha:addP s x with
  | none=>rw [ha] at hg;cases hg
  | some t =>
   rw [ha] at hg
   have h2:=add_st hp ha
   intro hk
   rcases List.mem_cons.1 h with rfl|h
   ·rcases h2.gor with ⟨_,g,_⟩|⟨g,_⟩
    ·omega
    ·exact absurd hk g
   ·have:=goP_gor hg h2.pv e h hk
    rcases h2.gor with ⟨_,_,g⟩|⟨_,g⟩ <;> omega
theorem goP_cap : ∀ {l:List Ev} {s:Ps},goP s l=true→Pv s → ∀ e ∈ l,qD e.kind=true → ∀ c,s.ch e.obj=some c→c.cap=e.n
 | [],s,_,_,e,h=>by cases h
 | x :: r,s,hg,hp,e,h=>by
  rw [goP] at hg
  cases ha:addP s x with
  | none=>rw [ha] at hg;cases hg
  | some t =>
   rw [ha] at hg
   have h2:=add_st hp ha
   intro hk c hc
   rcases List.mem_cons.1 h with rfl|h
   ·exact (h2.cap hk).2 c hc
   ·obtain ⟨c',h3,h4⟩:=h2.keep _ _ hc
    rw [← h4]
    exact goP_cap hg h2.pv e h hk c' h3
theorem z6z {l:List Ev} {i j:Nat} {y:Ev} (hij:i<j) (hy:l[j]? = some y):y ∈ l.drop (i+1):=by
 refine List.mem_iff_getElem?.2 ⟨j-(i+1),?_⟩
 rw [List.getElem?_drop,show i+1+(j-(i+1))=j by omega,hy]
theorem starts_ne {l:List Ev} (h:(qx l).2=true) {i j:Nat} {x y:Ev} (hij:i<j) (hx:l[i]? = some x) (hy:l[j]? = some y) (kx:x.kind=14) (ky:y.kind=14):x.k ≠ y.k:=by
 rw [← z4F] at h
 obtain ⟨si,ti,h1,h2,h3⟩:=goP_at h pv0 hx
 have:=goP_gor h3 h2.pv y (z6z hij hy) ky
 rcases h2.gor with ⟨_,g1,g2⟩|⟨g,_⟩
 ·omega
 ·exact absurd kx g
theorem caps_eq {l:List Ev} (h:(qx l).2=true) {i j:Nat} {x y:Ev} (hij:i<j) (hx:l[i]? = some x) (hy:l[j]? = some y) (kx:qD x.kind=true) (ky:qD y.kind=true) (ho:x.obj=y.obj):x.n=y.n:=by
 rw [← z4F] at h
 obtain ⟨si,ti,h1,h2,h3⟩:=goP_at h pv0 hx
 obtain ⟨⟨c,hc1,hc2⟩,_⟩:=h2.cap kx
 have:=goP_cap h3 h2.pv y (z6z hij hy) ky c (by rw [← ho];exact hc1)
 rw [← hc2,this]
end Go.Proofs.Ytdlgoofjechocaa
namespace Go.Proofs.Ytdlgoofjechocaa
open Go.RowKit Go.Sort Go.Maps
theorem Try.laidOut:laidOutB Try.prog=true:=by kernel_rfl
theorem z00:Keyed Try.prog 3:=int_keyed (q := .i64) (by kernel_rfl)
def inI (a:Int):Prop := 0≤a∧a<9223372036854775808
theorem inI.wf {a:Int} (h:inI a):(Lit.int .i64 a).wf=true:=by
 obtain ⟨h0,h1⟩:=h
 simp only [Lit.wf,Bool.and_eq_true,decide_eq_true_eq,show IntKind.i64.min = -9223372036854775808 from rfl,show IntKind.i64.max=9223372036854775807 from rfl]
 omega
theorem qW {a:Int} (h:inI a):keyOf Try.prog 3 (.int .i64 a)=some (.int .i64 a):=keyOf_int_mk (q := .i64) (by kernel_rfl) h.wf
def kyl (o p:Int):Lit := .string (keyBytes [.int .i64 o,.int .i64 p])
theorem key2_of {P : Program} {k : TypeId} {F : Array Field} (hS : P.underlying k = some (.struct F)) (hN : F.all (·.name != "_") = true) (hL : F.toList.map (fun f => (f.type, f.offset)) = [(3, 0), (3, 1)]) (hk : P.keyType k = true) (hc : P.cellsOf k = 2)
    (hu : P.underlying 3 = some (.int .i64)) (hci : P.cellsOf 3 = 1) (hz : 0 < P.types.size) {o p : Int} (ho : inI o) (hp : inI p) : keyOf P k (.agg #[.int .i64 o, .int .i64 p]) = some (kyl o p) := by
  have hf : (Value.agg #[.int .i64 o, .int .i64 p]).formed P k = true := by
    unfold Value.formed; rw [hS]; simp [hc]
  unfold keyOf
  rw [hS]
  simp only [hk, hf, Bool.and_self, if_true]
  obtain ⟨m, hm⟩ : ∃ m, P.types.size = m + 1 := ⟨P.types.size - 1, by omega⟩
  rw [hm]
  have hi : ∀ x : Int, (Lit.int .i64 x).wf = true → P.keyLits (m + 1) 3 [.int .i64 x] = some [.int .i64 x] := fun x hx => by
    unfold Program.keyLits
    rw [hu]
    simp [hx]
  rw [show m + 1 + 1 = (m + 1) + 1 from rfl]
  unfold Program.keyLits
  rw [hS]
  simp only [Value.cells, hN, hc, List.length_cons, List.length_nil, and_self, if_true]
  generalize F.toList = L at hL
  have hlen : L.length = 2 := by have := congrArg List.length hL; simpa using this
  match L, hlen with
  | [a, b], _ =>
    simp at hL
    obtain ⟨⟨h1, h2⟩, h3, h4⟩ := hL
    simp [h1, h2, h3, h4, hci, hi o ho.wf, hi p hp.wf, kyl]
noncomputable def flds (k:TypeId):Array Field:=match Try.prog.underlying k with|some (.struct f)=>f|_ => #[]
theorem z0H:Keyed Try.prog 104:=Keyed.of_law (deep_law_laid Try.laidOut (m := 2) (by omega) (of_decide_eq_true (by kernel_rfl)) (by kernel_rfl) (by rw [show Try.prog.underlying 104=some (.struct (flds 104)) by kernel_rfl]))
theorem z1l:Keyed Try.prog 85:=Keyed.of_law (deep_law_laid Try.laidOut (m := 2) (by omega) (of_decide_eq_true (by kernel_rfl)) (by kernel_rfl) (by rw [show Try.prog.underlying 85=some (.struct (flds 85)) by kernel_rfl]))
theorem z0s {o p:Int} (ho:inI o) (hp:inI p):keyOf Try.prog 104 (.agg #[.int .i64 o,.int .i64 p])=some (kyl o p) :=
 key2_of (F:=flds 104) (by kernel_rfl) (by kernel_rfl) (by kernel_rfl) (by kernel_rfl) (by kernel_rfl) (by kernel_rfl) (by kernel_rfl) (of_decide_eq_true (by kernel_rfl)) ho hp
theorem z1n {o p:Int} (ho:inI o) (hp:inI p):keyOf Try.prog 85 (.agg #[.int .i64 o,.int .i64 p])=some (kyl o p) :=
 key2_of (F:=flds 85) (by kernel_rfl) (by kernel_rfl) (by kernel_rfl) (by kernel_rfl) (by kernel_rfl) (by kernel_rfl) (by kernel_rfl) (of_decide_eq_true (by kernel_rfl)) ho hp
theorem kyl_inj {o p o' p' : Int} (ho:inI o) (hp:inI p) (ho' : inI o') (hp' : inI p') (h:kyl o p=kyl o' p'):o=o' ∧ p=p':=by
 have h1:=z0s ho hp
 rw [h] at h1
 have:=z0H.inj h1 (z0s ho' hp')
 simpa using this
noncomputable def unk (l:Lit):Option (Int × Int):=open Classical in if h : ∃ q:Int × Int,(inI q.1∧inI q.2)∧l=kyl q.1 q.2 then some h.choose else none
theorem unk_kyl {o p:Int} (ho:inI o) (hp:inI p):unk (kyl o p)=some (o,p):=by
 have h : ∃ q:Int × Int,(inI q.1∧inI q.2)∧kyl o p=kyl q.1 q.2:=⟨(o,p),⟨ho,hp⟩,rfl⟩
 unfold unk
 rw [dif_pos h]
 have h2:=h.choose_spec
 obtain ⟨e1,e2⟩:=kyl_inj ho hp h2.1.1 h2.1.2 h2.2
 rw [show h.choose=(h.choose.1,h.choose.2) from rfl,← e1,← e2]
theorem z7F {l:Lit} {q:Int × Int} (h:unk l=some q):l=kyl q.1 q.2:=by
 unfold unk at h
 split at h
 ·rename_i hx
  cases h
  exact hx.choose_spec.2
 ·cases h
noncomputable def plM {α:Type} (g : α→Value) (m:Int→Int→Option α) (l:Lit):Option Value:=(unk l).bind fun q=>(m q.1 q.2).map g
theorem z3X {α:Type} (g : α→Value) (m:Int→Int→Option α) {o p:Int} (ho:inI o) (hp:inI p):plM g m (kyl o p)=(m o p).map g:=by simp [plM,unk_kyl ho hp]
theorem z8X {α:Type} (g : α→Value) (m:Int→Int→Option α) {o p:Int} (ho:inI o) (hp:inI p) (v : α):updF (plM g m) (kyl o p) (some (g v))=plM g fun x y=>if x=o∧y=p then some v else m x y:=by
 funext l
 unfold updF
 by_cases e:l=kyl o p
 ·subst e
  simp [z3X g _ ho hp]
 ·rw [if_neg e]
  unfold plM
  cases hu:unk l with
  | none=>rfl
  | some q =>
   have hq:=z7F hu
   have hne : ¬(q.1=o∧q.2=p):=fun ⟨h1,h2⟩=>e (by rw [hq,h1,h2])
   simp [hne]
def inM {α:Type} (g : α→Value) (m:Int→Option α):Lit→Option Value
 | .int .i64 o=>(m o).map g
 | _=>none
theorem z6M {α:Type} (g : α→Value) (m:Int→Option α) (o:Int):inM g m (.int .i64 o)=(m o).map g:=rfl
theorem z8M {α:Type} (g : α→Value) (m:Int→Option α) (o:Int) (v : α):updF (inM g m) (.int .i64 o) (some (g v))=inM g fun x=>if x=o then some v else m x:=by
 funext l
 unfold updF
 by_cases e:l = .int .i64 o
 ·subst e
  simp [inM]
 ·rw [if_neg e]
  unfold inM
  split
  ·rename_i x
   have:x ≠ o:=fun h=>e (by rw [h])
   simp [this]
  ·rfl
end Go.Proofs.Ytdlgoofjechocaa
namespace Go.Proofs.Ytdlgoofjechocaa
open Go.RowKit Go.Sort
def z4N (l:List Ev) (x:Ev) (j:Nat):Bool := !(l.take j).any (fun e=>e.g==x.g)
theorem first_ok (l:List Ev) (j:Nat) (x:Ev) (hx:l[j]? = some x) (hl:l.length≤1000000):zq Try.prog 38 [.p (.seq 9 (l.map evC)),.int j] (.bool (z4N l x j)):=by
 have hjl:j<l.length:=(List.getElem?_eq_some_iff.1 hx).1
 refine zq.of Try.func38 rfl 22 rfl (by decide) (by simp [AV.okB]) ?_
 repeat' (first|refine T.zh fun K hK=>?_|refine T.block ?_|(refine T.reg (by kernel_rfl) fun K' hK'=>?_;simp only [bz];(repeat' (first|(with_reducible refine WL.fin ?_;refine hK' _ ?_;clear hK' K')|((with_reducible refine WL.step fun K2 hK2=>?_);simp only [simprocAttr,implies_true,amz,tys];(repeat' with_reducible (first|(refine hK2 _ ?_;clear hK2 K2)|refine And.intro ?_ ?_|intro hb))))))|refine T.skip ?_|refine T.exit ?_|refine T.zf rfl ?_|refine T.ze rfl ?_|refine T.cond rfl (fun hc=>?_) (fun hc=>?_)|refine T.ret ?_|simp only [za,z8,reduceIte,Nat.reduceEqDiff]|((repeat ((fail_if_success (refine hK _ ?_));clear hK K));refine hK _ ?_;clear hK K))
 refine T.qc (fun k:Nat=>⟨[(0,.p (.seq 9 (l.map evC))),(1,.int j),(5,.int k)],[],22,0⟩) (fun k=>k≤j∧(l.take k).any (fun e=>e.g==x.g)=false) (fun k=>j-k) 0 ⟨Nat.zero_le _,rfl⟩ (by refine zk.of' rfl ?_;simp only [wks,reduceIte,Nat.reduceEqDiff,ASt.okB,AV.okB,Nat.reduceLT,implies_true,Int.natCast_zero]) ?_
 rintro k ⟨hk,hn⟩ KL hKL
 by_cases hlt:k<j
 ·obtain ⟨y,hy⟩:=zT (show k<l.length by omega)
  have hd:decide ((k:Int)<(j:Int))=true:=by simpa using hlt
  have hany:(l.take (k+1)).any (fun e=>e.g==x.g)=(y.g==x.g):=by
   rw [List.take_add_one,hy,List.any_append,hn];simp
  have hbad:(y.g==x.g)=true→z4N l x j=false:=fun h=>by
   unfold z4N
   rw [List.any_eq_true.2 ⟨y,List.mem_take_iff_getElem.2 ⟨k,by omega,(List.getElem?_eq_some_iff.1 hy).2⟩,h⟩]
   rfl
  repeat' (first|refine T.zh fun K hK=>?_|refine T.block ?_|(refine T.reg (by kernel_rfl) fun K' hK'=>?_;simp only [bz];(repeat' (first|(with_reducible refine WL.fin ?_;refine hK' _ ?_;clear hK' K')|((with_reducible refine WL.step fun K2 hK2=>?_);simp only [simprocAttr,implies_true,amz,tys,hx,hy,hd,evC];(repeat' with_reducible (first|(refine hK2 _ ?_;clear hK2 K2)|refine And.intro ?_ ?_|intro hb))))))|refine T.skip ?_|refine T.exit ?_|refine T.zf rfl ?_|refine T.ze rfl ?_|refine T.cond rfl (fun hc=>?_) (fun hc=>?_)|refine T.ret ?_|simp only [za,z8,reduceIte,Nat.reduceEqDiff]|((repeat ((fail_if_success (refine hK _ ?_));clear hK K));refine hK _ ?_;clear hK K))
  refine T.drw 10 (by kernel_rfl) (by kernel_rfl) fun K' hK'=>?_;simp only [List.map_cons,List.map_nil];(repeat' (first|(with_reducible refine WL.fin ?_;refine hK' _ ?_;clear hK' K')|(with_reducible refine WD.fin ?_)|((with_reducible first|refine WL.step fun K2 hK2=>?_|refine WD.step fun K2 hK2=>?_);simp only [simprocAttr,implies_true,amz,tys,hx,hy,hd,evC];(repeat' with_reducible (first|(refine hK2 _ ?_;clear hK2 K2)|refine And.intro ?_ ?_|intro hb)))));all_goals ((try simp only [za,z8,reduceIte,Nat.reduceEqDiff]);(try ((repeat ((fail_if_success (refine hK _ ?_));clear hK K));refine hK _ ?_;clear hK K)))
  all_goals repeat' (first|refine T.zh fun K hK=>?_|refine T.block ?_|(refine T.reg (by kernel_rfl) fun K' hK'=>?_;simp only [bz];(repeat' (first|(with_reducible refine WL.fin ?_;refine hK' _ ?_;clear hK' K')|((with_reducible refine WL.step fun K2 hK2=>?_);simp only [simprocAttr,implies_true,amz,tys,hx,hy,hd,evC];(repeat' with_reducible (first|(refine hK2 _ ?_;clear hK2 K2)|refine And.intro ?_ ?_|intro hb))))))|refine T.skip ?_|refine T.exit ?_|refine T.zf rfl ?_|refine T.ze rfl ?_|refine T.cond rfl (fun hc=>?_) (fun hc=>?_)|refine T.ret ?_|simp only [za,z8,reduceIte,Nat.reduceEqDiff]|((repeat ((fail_if_success (refine hK _ ?_));clear hK K));refine hK _ ?_;clear hK K))
  ·refine zy.ret (.inr rfl) Try.results38 ?_;simp only [zu,zo,zn,simprocAttr,implies_true,amz,tys,]
   rw [hbad hc]
  ·exact hKL _ (k+1) (by refine zk.of' rfl ?_;simp only [wks,reduceIte,Nat.reduceEqDiff,ASt.okB,AV.okB,Nat.reduceLT,implies_true,zm (show k<1152921504606846976 by omega)]) ⟨by omega,by rw [hany];exact hc⟩ (by omega)
 ·have hd:decide ((k:Int)<(j:Int))=false:=by simpa using hlt
  obtain rfl:k=j:=by omega
  repeat' (first|refine T.zh fun K hK=>?_|refine T.block ?_|(refine T.reg (by kernel_rfl) fun K' hK'=>?_;simp only [bz];(repeat' (first|(with_reducible refine WL.fin ?_;refine hK' _ ?_;clear hK' K')|((with_reducible refine WL.step fun K2 hK2=>?_);simp only [simprocAttr,implies_true,amz,tys,hd];(repeat' with_reducible (first|(refine hK2 _ ?_;clear hK2 K2)|refine And.intro ?_ ?_|intro hb))))))|refine T.skip ?_|refine T.exit ?_|refine T.zf rfl ?_|refine T.ze rfl ?_|refine T.cond rfl (fun hc=>?_) (fun hc=>?_)|refine T.ret ?_|simp only [za,z8,reduceIte,Nat.reduceEqDiff]|((repeat ((fail_if_success (refine hK _ ?_));clear hK K));refine hK _ ?_;clear hK K))
  refine zy.ret (.inr rfl) Try.results38 ?_;simp only [zu,zo,zn,simprocAttr,implies_true,amz,tys,]
  simp [z4N,hn]
def z2y (l:List Ev) (x y:Ev) (i j:Nat):Bool := !(x.g != y.g) && !((l.take j).drop (i+1)).any (fun e=>e.g==x.g)
theorem z9R {l:List Ev} {i k:Nat} {z:Ev} (hz:l[k]? = some z) (hi:i+1≤k):(l.take (k+1)).drop (i+1)=(l.take k).drop (i+1) ++ [z]:=by
 have:=(List.getElem?_eq_some_iff.1 hz).1
 rw [List.take_add_one,hz,List.drop_append_of_le_length (by simp;omega)];rfl
theorem zaE (l:List Ev) (i j:Nat) (x y:Ev) (hx:l[i]? = some x) (hy:l[j]? = some y) (hij:i<j) (hl:l.length≤1000000):zq Try.prog 37 [.p (.seq 9 (l.map evC)),.int i,.int j] (.bool (z2y l x y i j)):=by
 have hjl:j<l.length:=(List.getElem?_eq_some_iff.1 hy).1
 refine zq.of Try.func37 rfl 37 rfl (by decide) (by simp [AV.okB]) ?_
 repeat' (first|refine T.zh fun K hK=>?_|refine T.block ?_|(refine T.reg (by kernel_rfl) fun K' hK'=>?_;simp only [bz];(repeat' (first|(with_reducible refine WL.fin ?_;refine hK' _ ?_;clear hK' K')|((with_reducible refine WL.step fun K2 hK2=>?_);simp only [simprocAttr,implies_true,amz,tys];(repeat' with_reducible (first|(refine hK2 _ ?_;clear hK2 K2)|refine And.intro ?_ ?_|intro hb))))))|refine T.skip ?_|refine T.exit ?_|refine T.zf rfl ?_|refine T.ze rfl ?_|refine T.cond rfl (fun hc=>?_) (fun hc=>?_)|refine T.ret ?_|simp only [za,z8,reduceIte,Nat.reduceEqDiff]|((repeat ((fail_if_success (refine hK _ ?_));clear hK K));refine hK _ ?_;clear hK K))
 refine T.drw 11 (by kernel_rfl) (by kernel_rfl) fun K' hK'=>?_;simp only [List.map_cons,List.map_nil];(repeat' (first|(with_reducible refine WL.fin ?_;refine hK' _ ?_;clear hK' K')|(with_reducible refine WD.fin ?_)|((with_reducible first|refine WL.step fun K2 hK2=>?_|refine WD.step fun K2 hK2=>?_);simp only [simprocAttr,implies_true,amz,tys,hx,hy,evC];(repeat' with_reducible (first|(refine hK2 _ ?_;clear hK2 K2)|refine And.intro ?_ ?_|intro hb)))));all_goals ((try simp only [za,z8,reduceIte,Nat.reduceEqDiff]);(try ((repeat ((fail_if_success (refine hK _ ?_));clear hK K));refine hK _ ?_;clear hK K)))
 all_goals repeat' (first|refine T.zh fun K hK=>?_|refine T.block ?_|(refine T.reg (by kernel_rfl) fun K' hK'=>?_;simp only [bz];(repeat' (first|(with_reducible refine WL.fin ?_;refine hK' _ ?_;clear hK' K')|((with_reducible refine WL.step fun K2 hK2=>?_);simp only [simprocAttr,implies_true,amz,tys,zm (show i<1152921504606846976 by omega)];(repeat' with_reducible (first|(refine hK2 _ ?_;clear hK2 K2)|refine And.intro ?_ ?_|intro hb))))))|refine T.skip ?_|refine T.exit ?_|refine T.zf rfl ?_|refine T.ze rfl ?_|refine T.cond rfl (fun hc=>?_) (fun hc=>?_)|refine T.ret ?_|simp only [za,z8,reduceIte,Nat.reduceEqDiff]|((repeat ((fail_if_success (refine hK _ ?_));clear hK K));refine hK _ ?_;clear hK K))
 ·refine zy.ret (.inr rfl) Try.results37 ?_;simp only [zu,zo,zn,simprocAttr,implies_true,amz,tys,]
  simp [z2y,hc]
 ·refine T.qc (fun k:Nat=>⟨[(0,.p (.seq 9 (l.map evC))),(1,.int i),(2,.int j),(7,.int k)],[],37,0⟩) (fun k=>i+1≤k∧k≤j∧((l.take k).drop (i+1)).any (fun e=>e.g==x.g)=false) (fun k=>j-k) (i+1) ⟨Nat.le_refl _,hij,by rw [List.drop_eq_nil_of_le (by simp;omega)];rfl⟩ (by refine zk.of' rfl ?_;simp only [wks,reduceIte,Nat.reduceEqDiff,ASt.okB,AV.okB,Nat.reduceLT,implies_true,Int.natCast_zero]) ?_
  rintro k ⟨hk0,hk,hn⟩ KL hKL
  by_cases hlt:k<j
  ·obtain ⟨z,hz⟩:=zT (show k<l.length by omega)
   have hd:decide ((k:Int)<(j:Int))=true:=by simpa using hlt
   have hany:((l.take (k+1)).drop (i+1)).any (fun e=>e.g==x.g)=(z.g==x.g):=by
    rw [z9R hz hk0,List.any_append,hn];simp
   have hbad:(z.g==x.g)=true→z2y l x y i j=false:=fun h=>by
    have hm:z ∈ (l.take j).drop (i+1):=by
     refine List.mem_iff_getElem?.2 ⟨k-(i+1),?_⟩
     rw [List.getElem?_drop,show i+1+(k-(i+1))=k by omega,List.getElem?_take,if_pos hlt,hz]
    unfold z2y
    rw [List.any_eq_true.2 ⟨z,hm,h⟩]
    simp
   repeat' (first|refine T.zh fun K hK=>?_|refine T.block ?_|(refine T.reg (by kernel_rfl) fun K' hK'=>?_;simp only [bz];(repeat' (first|(with_reducible refine WL.fin ?_;refine hK' _ ?_;clear hK' K')|((with_reducible refine WL.step fun K2 hK2=>?_);simp only [simprocAttr,implies_true,amz,tys,hx,hz,hd,evC];(repeat' with_reducible (first|(refine hK2 _ ?_;clear hK2 K2)|refine And.intro ?_ ?_|intro hb))))))|refine T.skip ?_|refine T.exit ?_|refine T.zf rfl ?_|refine T.ze rfl ?_|refine T.cond rfl (fun hc=>?_) (fun hc=>?_)|refine T.ret ?_|simp only [za,z8,reduceIte,Nat.reduceEqDiff]|((repeat ((fail_if_success (refine hK _ ?_));clear hK K));refine hK _ ?_;clear hK K))
   refine T.drw 11 (by kernel_rfl) (by kernel_rfl) fun K' hK'=>?_;simp only [List.map_cons,List.map_nil];(repeat' (first|(with_reducible refine WL.fin ?_;refine hK' _ ?_;clear hK' K')|(with_reducible refine WD.fin ?_)|((with_reducible first|refine WL.step fun K2 hK2=>?_|refine WD.step fun K2 hK2=>?_);simp only [simprocAttr,implies_true,amz,tys,hx,hz,hd,evC];(repeat' with_reducible (first|(refine hK2 _ ?_;clear hK2 K2)|refine And.intro ?_ ?_|intro hb)))));all_goals ((try simp only [za,z8,reduceIte,Nat.reduceEqDiff]);(try ((repeat ((fail_if_success (refine hK _ ?_));clear hK K));refine hK _ ?_;clear hK K)))
   all_goals repeat' (first|refine T.zh fun K hK=>?_|refine T.block ?_|(refine T.reg (by kernel_rfl) fun K' hK'=>?_;simp only [bz];(repeat' (first|(with_reducible refine WL.fin ?_;refine hK' _ ?_;clear hK' K')|((with_reducible refine WL.step fun K2 hK2=>?_);simp only [simprocAttr,implies_true,amz,tys,hx,hz,hd,evC];(repeat' with_reducible (first|(refine hK2 _ ?_;clear hK2 K2)|refine And.intro ?_ ?_|intro hb))))))|refine T.skip ?_|refine T.exit ?_|refine T.zf rfl ?_|refine T.ze rfl ?_|refine T.cond rfl (fun hc=>?_) (fun hc=>?_)|refine T.ret ?_|simp only [za,z8,reduceIte,Nat.reduceEqDiff]|((repeat ((fail_if_success (refine hK _ ?_));clear hK K));refine hK _ ?_;clear hK K))
   ·refine zy.ret (.inr rfl) Try.results37 ?_;simp only [zu,zo,zn,simprocAttr,implies_true,amz,tys,]
    rw [hbad hc]
   ·exact hKL _ (k+1) (by refine zk.of' rfl ?_;simp only [wks,reduceIte,Nat.reduceEqDiff,ASt.okB,AV.okB,Nat.reduceLT,implies_true,zm (show k<1152921504606846976 by omega)]) ⟨by omega,by omega,by rw [hany];exact hc⟩ (by omega)
  ·have hd:decide ((k:Int)<(j:Int))=false:=by simpa using hlt
   obtain rfl:k=j:=by omega
   repeat' (first|refine T.zh fun K hK=>?_|refine T.block ?_|(refine T.reg (by kernel_rfl) fun K' hK'=>?_;simp only [bz];(repeat' (first|(with_reducible refine WL.fin ?_;refine hK' _ ?_;clear hK' K')|((with_reducible refine WL.step fun K2 hK2=>?_);simp only [simprocAttr,implies_true,amz,tys,hd];(repeat' with_reducible (first|(refine hK2 _ ?_;clear hK2 K2)|refine And.intro ?_ ?_|intro hb))))))|refine T.skip ?_|refine T.exit ?_|refine T.zf rfl ?_|refine T.ze rfl ?_|refine T.cond rfl (fun hc=>?_) (fun hc=>?_)|refine T.ret ?_|simp only [za,z8,reduceIte,Nat.reduceEqDiff]|((repeat ((fail_if_success (refine hK _ ?_));clear hK K));refine hK _ ?_;clear hK K))
   refine zy.ret (.inr rfl) Try.results37 ?_;simp only [zu,zo,zn,simprocAttr,implies_true,amz,tys,]
   simp [z2y,hn,hc]
end Go.Proofs.Ytdlgoofjechocaa
namespace Go.Proofs.Ytdlgoofjechocaa
open Go.RowKit Go.Sort Go.Maps
theorem zk.upN (s:ASt) (m:Nat) (hm:s.N≤m):zk s { s with N:=m }:=fun L loc ac w hr =>
 ⟨loc,⟨hr.defers,hr.size,fun t ht=>(hr.fr t ht).mono hm (Kp.refl _ _) (fun _ _ h=>h) (fun _ _ _ h=>h),⟨fun t o ho=>let ⟨h1,u,h2,h3⟩:=hr.hp.at' t o ho;⟨Nat.lt_of_lt_of_le h1 hm,u,h2,h3.mono hm (Kp.refl _ _) (fun _ _ h=>h) (fun _ _ _ h=>h) (fun _ _=>rfl)⟩,hr.hp.dead,hr.hp.apart,hr.hp.inL,hr.hp.notL⟩⟩,Ext.refl _ _⟩
theorem zk.obj (s:ASt) (t:Nat) (o o' : AO) (hlk:s.hp.lookup t=some o) (hle : ∀ N D loc w u,OR N D loc w u o→OR N D loc w u o'):zk s { s with hp:=zG s.hp t o' }:=fun L loc ac w hr=>by
 refine ⟨loc,⟨hr.defers,hr.size,hr.fr,⟨fun k ob hk=>?_,fun k hk=>?_,hr.hp.apart,hr.hp.inL,hr.hp.notL⟩⟩,Ext.refl _ _⟩
 ·change (zG s.hp t _).lookup k=some ob at hk
  rw [zC] at hk
  by_cases e1:k=t
  ·subst e1
   rw [if_pos rfl,hlk] at hk
   cases hk
   obtain ⟨h1,u,h2,h3⟩:=hr.hp.at' k _ hlk
   exact ⟨h1,u,h2,hle _ _ _ _ _ h3⟩
  ·rw [if_neg e1] at hk
   exact hr.hp.at' k ob hk
 ·change (zG s.hp t _).lookup k=none at hk
  rw [zC] at hk
  by_cases e1:k=t
  ·subst e1;rw [if_pos rfl,hlk] at hk;cases hk
  ·rw [if_neg e1] at hk;exact hr.hp.dead k hk
theorem zk.hpe (s:ASt) (hp' : Hp) (h : ∀ t,hp'.lookup t=s.hp.lookup t):zk s { s with hp:=hp' }:=fun L loc ac w hr =>
 ⟨loc,⟨hr.defers,hr.size,hr.fr,⟨fun k o hk=>hr.hp.at' k o (by rw [← h k];exact hk),fun k hk=>hr.hp.dead k (by rw [← h k];exact hk),hr.hp.apart,hr.hp.inL,hr.hp.notL⟩⟩,Ext.refl _ _⟩
theorem OR.toA {N:Nat} {D:Nat→Prop} {loc:Nat→Option Value} {w:World} {u:Value} {e:Nat} {cs:List PV} (h:OR N D loc w u (.row e 1 (cs.map fun x => [x]))):OR N D loc w u (.arow e (cs.map .p)):=by
 obtain ⟨flat,h1,h2,h3,h4⟩:=h
 refine ⟨flat,by rw [List.length_map] at h1 ⊢;exact h1,fun j x hx=>?_,h4⟩
 simp only [List.getElem?_map,Option.map_eq_some_iff] at hx
 obtain ⟨c,hc,rfl⟩:=hx
 obtain ⟨v,h5,h6⟩:=h3 j [c] 0 c (by rw [List.getElem?_map,hc];rfl) rfl
 exact ⟨v,by simpa using h5,.p _ _ h6⟩
theorem OR.ofA {N:Nat} {D:Nat→Prop} {loc:Nat→Option Value} {w:World} {u:Value} {e:Nat} {cs:List PV} (h:OR N D loc w u (.arow e (cs.map .p))):OR N D loc w u (.row e 1 (cs.map fun x => [x])):=by
 obtain ⟨flat,h1,h3,h4⟩:=h
 refine ⟨flat,by rw [List.length_map] at h1 ⊢;exact h1,fun r hr=>?_,fun k r j x hk hx=>?_,h4⟩
 ·obtain ⟨c,_,rfl⟩:=List.mem_map.1 hr;rfl
 ·simp only [List.getElem?_map,Option.map_eq_some_iff] at hk
  obtain ⟨c,hc,rfl⟩:=hk
  cases j with
  | succ j=>simp at hx
  | zero =>
   cases hx
   obtain ⟨v,h5,h6⟩:=h3 k (.p x) (by rw [List.getElem?_map,hc];rfl)
   exact ⟨v,by simpa using h5,by cases h6 with|p _ _ h=>exact h⟩
theorem OR.toM {N:Nat} {D:Nat→Prop} {loc:Nat→Option Value} {w:World} {u:Value} {pin:Option Nat} {P:Program} {k n:Nat} (h:OR N D loc w u (.map pin P k n fun _=>none)):OR N D loc w u (.amap P k n (fun _=>none) none):=by
 obtain ⟨b,DD,rfl,h1,h2,_⟩:=h
 exact ⟨b,DD,fun _=>none,rfl,h1,h2,fun kl=>⟨fun x hx=>(by cases hx),fun _=>rfl⟩,trivial⟩
theorem zk.toA (s:ASt) (t e:Nat) (cs:List PV) (hlk:s.hp.lookup t=some (.row e 1 (cs.map fun x => [x]))):zk s { s with hp:=zG s.hp t (.arow e (cs.map .p)) }:=zk.obj s t _ _ hlk fun _ _ _ _ _ h=>h.toA
theorem zk.ofA (s:ASt) (t e:Nat) (cs:List PV) (hlk:s.hp.lookup t=some (.arow e (cs.map .p))):zk s { s with hp:=zG s.hp t (.row e 1 (cs.map fun x => [x])) }:=zk.obj s t _ _ hlk fun _ _ _ _ _ h=>h.ofA
theorem zk.toM (s:ASt) (t:Nat) (pin:Option Nat) (P:Program) (k n:Nat) (hlk:s.hp.lookup t=some (.map pin P k n fun _=>none)):zk s { s with hp:=zG s.hp t (.amap P k n (fun _=>none) none) }:=zk.obj s t _ _ hlk fun _ _ _ _ _ h=>h.toM
def mat (e n:Nat):Nat→List (List (List PV))→Hp
 | _,[] => []
 | b,r :: R=>(b,.row e n r) :: mat e n (b+1) R
theorem z0D (e n:Nat) : ∀ (R:List (List (List PV))) (b t:Nat),(mat e n b R).lookup t=if b≤t then (R[t-b]?).map (.row e n) else none
 | [],b,t=>by simp [mat]
 | r :: R,b,t=>by
  rw [mat]
  by_cases h:t=b
  ·subst h;rw [zi];simp
  ·rw [zb h,z0D e n R (b+1) t]
   by_cases h1:b≤t
   ·rw [if_pos (by omega),if_pos h1,show t-b=(t-(b+1))+1 by omega,List.getElem?_cons_succ]
   ·rw [if_neg (by omega),if_neg h1]
theorem z2o (e n b i:Nat) (R:List (List (List PV))):(mat e n b R).lookup (i+b)=(R[i]?).map (.row e n):=by
 rw [z0D,if_pos (by omega),Nat.add_sub_cancel]
theorem z3j (e n b t:Nat) (R:List (List (List PV))) (h:t<b):(mat e n b R).lookup t=none:=by
 rw [z0D,if_neg (by omega)]
theorem z7d (e n b t:Nat) (R:List (List (List PV))) (h:b+R.length≤t):(mat e n b R).lookup t=none:=by
 rw [z0D]
 split
 ·rw [List.getElem?_eq_none (by omega)];rfl
 ·rfl
theorem z1k (e n:Nat) : ∀ (R:List (List (List PV))) (b:Nat),∀ p ∈ mat e n b R,b≤p.1∧p.1<b+R.length ∧ ∃ r ∈ R,p.2 = .row e n r
 | [],b,p,h=>by cases h
 | r :: R,b,p,h=>by
  rcases List.mem_cons.1 h with h|h
  ·subst h;exact ⟨Nat.le_refl _,by simp,r,by simp,rfl⟩
  ·obtain ⟨h1,h2,q,h3,h4⟩:=z1k e n R (b+1) p h
   exact ⟨by omega,by simp;omega,q,by simp [h3],h4⟩
theorem z7g (e n:Nat) (F:AO→AO) (hF : ∀ r,F (.row e n r) = .row e n r) : ∀ (R:List (List (List PV))) (b:Nat),(mat e n b R).map (fun p=>(p.1,F p.2))=mat e n b R
 | [],b=>rfl
 | r :: R,b=>by rw [mat,List.map_cons,hF,z7g e n F hF R (b+1)]
theorem z3J (e n:Nat) (q:Nat→Bool) : ∀ (R:List (List (List PV))) (b:Nat),(∀ t,b≤t→t<b+R.length→q t=true)→(mat e n b R).filter (fun p=>q p.1)=mat e n b R
 | [],b,_=>rfl
 | r :: R,b,h=>by rw [mat,List.filter_cons,if_pos (h b (Nat.le_refl _) (by simp)),z3J e n q R (b+1) fun t h1 h2=>h t (by omega) (by simp at h2 ⊢;omega)]
theorem mat_set (e n:Nat) (r:List (List PV)) : ∀ (R:List (List (List PV))) (b i:Nat),zG (mat e n b R) (i+b) (.row e n r)=mat e n b (R.set i r)
 | [],b,i=>by simp [mat,zG]
 | q :: R,b,0=>by
  simp only [mat,zG,List.map_cons,Nat.zero_add,if_true,List.set_cons_zero]
  congr 1
  have:=z3J e n (fun _=>true) R (b+1) (fun _ _ _=>rfl)
  clear this
  have hk:=z1k e n R (b+1)
  rw [List.map_congr_left (g:=id) fun p hp=>by rw [if_neg (by have:=(hk p hp).1;omega)];rfl]
  simp
 | q :: R,b,i+1=>by
  rw [mat,List.set_cons_succ,mat,show i+1+b=i+(b+1) by omega,← mat_set e n r R (b+1) i]
  simp only [zG,List.map_cons]
  rw [if_neg (by omega)]
theorem z7O (e n:Nat) (r:List (List PV)) : ∀ (R:List (List (List PV))) (b:Nat),mat e n b (R ++ [r])=mat e n b R ++ [(b+R.length,.row e n r)]
 | [],b=>rfl
 | q :: R,b=>by
  rw [List.cons_append,mat,z7O e n r R (b+1),mat,List.cons_append,show b+1+R.length=b+(q :: R).length by simp;omega]
theorem z2M (e n b i:Nat) (r:List (List PV)) (R:List (List (List PV))):List.map (fun p=>if p.1=i+b then (i+b,.row e n r) else p) (mat e n b R)=mat e n b (R.set i r):=mat_set e n r R b i
theorem z4e (e n b t:Nat) (y:AV) (R:List (List (List PV))):List.map (fun p=>(p.1,AO.sub t y p.2)) (mat e n b R)=mat e n b R:=z7g e n (AO.sub t y) (fun _=>rfl) R b
theorem mat_keep (e n b m:Nat) (ks:List Nat) (R:List (List (List PV))):List.map (fun p=>(p.1,AO.keep m ks p.2)) (mat e n b R)=mat e n b R:=z7g e n (AO.keep m ks) (fun _=>rfl) R b
theorem z7r (e n b t t' : Nat) (R:List (List (List PV))):List.map (fun p=>(p.1,AO.ren t t' p.2)) (mat e n b R)=mat e n b R:=z7g e n (AO.ren t t') (fun _=>rfl) R b
theorem z6S (e n b t:Nat) (R:List (List (List PV))) (h:t<b∨b+R.length≤t):List.filter (fun p=>p.1 != t) (mat e n b R)=mat e n b R :=
 z3J e n (fun k=>k != t) R b fun k h1 h2=>by simp;omega
theorem z7N (e n b t t' : Nat) (R:List (List (List PV))) (h:t<b∨b+R.length≤t) (h' : t' < b∨b+R.length≤t'):List.filter (fun p=>p.1 != t&&p.1 != t') (mat e n b R)=mat e n b R :=
 z3J e n (fun k=>k != t&&k != t') R b fun k h1 h2=>by simp;omega
end Go.Proofs.Ytdlgoofjechocaa
namespace Go.Proofs.Ytdlgoofjechocaa
open Go.RowKit Go.Sort
def z0f (y z:Ev):Bool:=((z.kind==4)||(z.kind==5))&&(z.obj==y.obj)&&(z.off==y.off)
def z7U (l:List Ev) (y:Ev) (i j:Nat):Bool := !((l.take j).drop (i+1)).any (z0f y)
theorem atomic_ok (l:List Ev) (i j:Nat) (y:Ev) (hy:l[j]? = some y) (hij:i<j) (hl:l.length≤1000000):zq Try.prog 39 [.p (.seq 9 (l.map evC)),.int i,.int j] (.bool (z7U l y i j)):=by
 have hjl:j<l.length:=(List.getElem?_eq_some_iff.1 hy).1
 refine zq.of Try.func39 rfl 55 rfl (by decide) (by simp [AV.okB]) ?_
 repeat' (first|refine T.zh fun K hK=>?_|refine T.block ?_|(refine T.reg (by kernel_rfl) fun K' hK'=>?_;simp only [bz];(repeat' (first|(with_reducible refine WL.fin ?_;refine hK' _ ?_;clear hK' K')|((with_reducible refine WL.step fun K2 hK2=>?_);simp only [simprocAttr,implies_true,amz,tys,zm (show i<1152921504606846976 by omega)];(repeat' with_reducible (first|(refine hK2 _ ?_;clear hK2 K2)|refine And.intro ?_ ?_|intro hb))))))|refine T.skip ?_|refine T.exit ?_|refine T.zf rfl ?_|refine T.ze rfl ?_|refine T.cond rfl (fun hc=>?_) (fun hc=>?_)|refine T.ret ?_|simp only [za,z8,reduceIte,Nat.reduceEqDiff]|((repeat ((fail_if_success (refine hK _ ?_));clear hK K));refine hK _ ?_;clear hK K))
 refine T.qc (fun k:Nat=>⟨[(0,.p (.seq 9 (l.map evC))),(1,.int i),(2,.int j),(7,.int k)],[],55,0⟩) (fun k=>i+1≤k∧k≤j∧((l.take k).drop (i+1)).any (z0f y)=false) (fun k=>j-k) (i+1) ⟨Nat.le_refl _,hij,by rw [List.drop_eq_nil_of_le (by simp;omega)];rfl⟩ (by refine zk.of' rfl ?_;simp only [wks,reduceIte,Nat.reduceEqDiff,ASt.okB,AV.okB,Nat.reduceLT,implies_true,Int.natCast_zero]) ?_
 rintro k ⟨hk0,hk,hn⟩ KL hKL
 by_cases hlt:k<j
 ·obtain ⟨z,hz⟩:=zT (show k<l.length by omega)
  have hd:decide ((k:Int)<(j:Int))=true:=by simpa using hlt
  have hany:((l.take (k+1)).drop (i+1)).any (z0f y)=z0f y z:=by
   rw [z9R hz hk0,List.any_append,hn];simp
  have hbad:z0f y z=true→z7U l y i j=false:=fun h=>by
   have hm:z ∈ (l.take j).drop (i+1):=by
    refine List.mem_iff_getElem?.2 ⟨k-(i+1),?_⟩
    rw [List.getElem?_drop,show i+1+(k-(i+1))=k by omega,List.getElem?_take,if_pos hlt,hz]
   unfold z7U
   rw [List.any_eq_true.2 ⟨z,hm,h⟩]
   rfl
  have hgo:z0f y z=false → ∀ s',zk s' _→KL s':=fun h s' hw=>hKL s' (k+1) hw ⟨by omega,by omega,by rw [hany];exact h⟩ (by omega)
  cases h4:(z.kind==4) with
  | true =>
   cases ho:(z.obj==y.obj) with
   | true =>
    cases hf:(z.off==y.off) with
    | true =>
     have hw:z0f y z=true:=by simp [z0f,h4,ho,hf]
     repeat' (first|refine T.zh fun K hK=>?_|refine T.block ?_|(refine T.reg (by kernel_rfl) fun K' hK'=>?_;simp only [bz];(repeat' (first|(with_reducible refine WL.fin ?_;refine hK' _ ?_;clear hK' K')|((with_reducible refine WL.step fun K2 hK2=>?_);simp only [simprocAttr,implies_true,amz,tys,hy,hz,hd,evC];(repeat' with_reducible (first|(refine hK2 _ ?_;clear hK2 K2)|refine And.intro ?_ ?_|intro hb))))))|refine T.skip ?_|refine T.exit ?_|refine T.zf rfl ?_|refine T.ze rfl ?_|refine T.cond rfl (fun hc=>?_) (fun hc=>?_)|refine T.ret ?_|simp only [za,z8,reduceIte,Nat.reduceEqDiff]|((repeat ((fail_if_success (refine hK _ ?_));clear hK K));refine hK _ ?_;clear hK K))
     refine T.comm [some (0,0),some (0,0),some (0,0),some (0,0),some (0,0),some (0,0),some (0,0),some (0,0),some (0,0),some (0,0),some (0,0),some (0,0),some (0,0),some (0,0),some (0,0),some (0,0),some (0,0),some (0,0),some (0,0),some (0,0),some (0,0),some (0,0),some (0,0),some (0,0),some (0,0),some (0,0),some (0,0),some (0,0),some (0,0),some (0,0),some (0,0),some (0,0),some (0,0),some (0,0),some (0,0),some (0,0),some (0,0),some (0,0),some (0,0),some (0,0)] (by kernel_rfl) (by kernel_rfl) fun K' hK'=>?_;simp only [List.map_cons,List.map_nil,List.zip_cons_cons,List.zip_nil_left];(repeat' (first|(with_reducible refine WC.fin ?_;refine hK' _ ?_;clear hK' K')|((first|(with_reducible refine WC.z0P fun K2 hK2=>?_)|(with_reducible refine WC.stepW fun K2 hK2=>?_));simp only [simprocAttr,implies_true,amz,WCg,WCv,WOw,allP,dav,Chk,List.filter_cons,List.filter_nil,bne_self_eq_false,Nat.reduceBneDiff,Bool.false_eq_true,tys,hy,hz,hd,evC,h4,ho,hf];(repeat' (first|(with_reducible refine hK2 _ _ ?_;clear hK2 K2)|with_reducible (first|(refine hK2 _ ?_;clear hK2 K2)|refine And.intro ?_ ?_|intro hb)|(with_reducible rfl)|((with_reducible show @Eq ASt _ _);rfl) )))));all_goals ((try simp only [za,z8,reduceIte,Nat.reduceEqDiff]);(try ((repeat ((fail_if_success (refine hK _ ?_));clear hK K));refine hK _ ?_;clear hK K)))
     all_goals repeat' (first|refine T.zh fun K hK=>?_|refine T.block ?_|(refine T.reg (by kernel_rfl) fun K' hK'=>?_;simp only [bz];(repeat' (first|(with_reducible refine WL.fin ?_;refine hK' _ ?_;clear hK' K')|((with_reducible refine WL.step fun K2 hK2=>?_);simp only [simprocAttr,implies_true,amz,tys,hy,hz,hd,evC];(repeat' with_reducible (first|(refine hK2 _ ?_;clear hK2 K2)|refine And.intro ?_ ?_|intro hb))))))|refine T.skip ?_|refine T.exit ?_|refine T.zf rfl ?_|refine T.ze rfl ?_|refine T.cond rfl (fun hc=>?_) (fun hc=>?_)|refine T.ret ?_|simp only [za,z8,reduceIte,Nat.reduceEqDiff]|((repeat ((fail_if_success (refine hK _ ?_));clear hK K));refine hK _ ?_;clear hK K))
     all_goals (refine zy.ret (.inr rfl) Try.results39 ?_;simp only [zu,zo,zn,simprocAttr,implies_true,amz,tys,];rw [hbad hw])
    | false =>
     have hw:z0f y z=false:=by simp [z0f,h4,ho,hf]
     repeat' (first|refine T.zh fun K hK=>?_|refine T.block ?_|(refine T.reg (by kernel_rfl) fun K' hK'=>?_;simp only [bz];(repeat' (first|(with_reducible refine WL.fin ?_;refine hK' _ ?_;clear hK' K')|((with_reducible refine WL.step fun K2 hK2=>?_);simp only [simprocAttr,implies_true,amz,tys,hy,hz,hd,evC];(repeat' with_reducible (first|(refine hK2 _ ?_;clear hK2 K2)|refine And.intro ?_ ?_|intro hb))))))|refine T.skip ?_|refine T.exit ?_|refine T.zf rfl ?_|refine T.ze rfl ?_|refine T.cond rfl (fun hc=>?_) (fun hc=>?_)|refine T.ret ?_|simp only [za,z8,reduceIte,Nat.reduceEqDiff]|((repeat ((fail_if_success (refine hK _ ?_));clear hK K));refine hK _ ?_;clear hK K))
     refine T.comm [some (0,0),some (0,0),some (0,0),some (0,0),some (0,0),some (0,0),some (0,0),some (0,0),some (0,0),some (0,0),some (0,0),some (0,0),some (0,0),some (0,0),some (0,0),some (0,0),some (0,0),some (0,0),some (0,0),some (0,0),some (0,0),some (0,0),some (0,0),some (0,0),some (0,0),some (0,0),some (0,0),some (0,0),some (0,0),some (0,0),some (0,0),some (0,0),some (0,0),some (0,0),some (0,0),some (0,0),some (0,0),some (0,0),some (0,0),some (0,0)] (by kernel_rfl) (by kernel_rfl) fun K' hK'=>?_;simp only [List.map_cons,List.map_nil,List.zip_cons_cons,List.zip_nil_left];(repeat' (first|(with_reducible refine WC.fin ?_;refine hK' _ ?_;clear hK' K')|((first|(with_reducible refine WC.z0P fun K2 hK2=>?_)|(with_reducible refine WC.stepW fun K2 hK2=>?_));simp only [simprocAttr,implies_true,amz,WCg,WCv,WOw,allP,dav,Chk,List.filter_cons,List.filter_nil,bne_self_eq_false,Nat.reduceBneDiff,Bool.false_eq_true,tys,hy,hz,hd,evC,h4,ho,hf];(repeat' (first|(with_reducible refine hK2 _ _ ?_;clear hK2 K2)|with_reducible (first|(refine hK2 _ ?_;clear hK2 K2)|refine And.intro ?_ ?_|intro hb)|(with_reducible rfl)|((with_reducible show @Eq ASt _ _);rfl) )))));all_goals ((try simp only [za,z8,reduceIte,Nat.reduceEqDiff]);(try ((repeat ((fail_if_success (refine hK _ ?_));clear hK K));refine hK _ ?_;clear hK K)))
     all_goals repeat' (first|refine T.zh fun K hK=>?_|refine T.block ?_|(refine T.reg (by kernel_rfl) fun K' hK'=>?_;simp only [bz];(repeat' (first|(with_reducible refine WL.fin ?_;refine hK' _ ?_;clear hK' K')|((with_reducible refine WL.step fun K2 hK2=>?_);simp only [simprocAttr,implies_true,amz,tys,hy,hz,hd,evC];(repeat' with_reducible (first|(refine hK2 _ ?_;clear hK2 K2)|refine And.intro ?_ ?_|intro hb))))))|refine T.skip ?_|refine T.exit ?_|refine T.zf rfl ?_|refine T.ze rfl ?_|refine T.cond rfl (fun hc=>?_) (fun hc=>?_)|refine T.ret ?_|simp only [za,z8,reduceIte,Nat.reduceEqDiff]|((repeat ((fail_if_success (refine hK _ ?_));clear hK K));refine hK _ ?_;clear hK K))
     all_goals (refine hgo hw _ ?_;refine zk.of' rfl ?_;simp only [wks,reduceIte,Nat.reduceEqDiff,ASt.okB,AV.okB,Nat.reduceLT,implies_true,zm (show k<1152921504606846976 by omega)])
   | false =>
    have hw:z0f y z=false:=by simp [z0f,h4,ho]
    repeat' (first|refine T.zh fun K hK=>?_|refine T.block ?_|(refine T.reg (by kernel_rfl) fun K' hK'=>?_;simp only [bz];(repeat' (first|(with_reducible refine WL.fin ?_;refine hK' _ ?_;clear hK' K')|((with_reducible refine WL.step fun K2 hK2=>?_);simp only [simprocAttr,implies_true,amz,tys,hy,hz,hd,evC];(repeat' with_reducible (first|(refine hK2 _ ?_;clear hK2 K2)|refine And.intro ?_ ?_|intro hb))))))|refine T.skip ?_|refine T.exit ?_|refine T.zf rfl ?_|refine T.ze rfl ?_|refine T.cond rfl (fun hc=>?_) (fun hc=>?_)|refine T.ret ?_|simp only [za,z8,reduceIte,Nat.reduceEqDiff]|((repeat ((fail_if_success (refine hK _ ?_));clear hK K));refine hK _ ?_;clear hK K))
    refine T.comm [some (0,0),some (0,0),some (0,0),some (0,0),some (0,0),some (0,0),some (0,0),some (0,0),some (0,0),some (0,0),some (0,0),some (0,0),some (0,0),some (0,0),some (0,0),some (0,0),some (0,0),some (0,0),some (0,0),some (0,0),some (0,0),some (0,0),some (0,0),some (0,0),some (0,0),some (0,0),some (0,0),some (0,0),some (0,0),some (0,0),some (0,0),some (0,0),some (0,0),some (0,0),some (0,0),some (0,0),some (0,0),some (0,0),some (0,0),some (0,0)] (by kernel_rfl) (by kernel_rfl) fun K' hK'=>?_;simp only [List.map_cons,List.map_nil,List.zip_cons_cons,List.zip_nil_left];(repeat' (first|(with_reducible refine WC.fin ?_;refine hK' _ ?_;clear hK' K')|((first|(with_reducible refine WC.z0P fun K2 hK2=>?_)|(with_reducible refine WC.stepW fun K2 hK2=>?_));simp only [simprocAttr,implies_true,amz,WCg,WCv,WOw,allP,dav,Chk,List.filter_cons,List.filter_nil,bne_self_eq_false,Nat.reduceBneDiff,Bool.false_eq_true,tys,hy,hz,hd,evC,h4,ho];(repeat' (first|(with_reducible refine hK2 _ _ ?_;clear hK2 K2)|with_reducible (first|(refine hK2 _ ?_;clear hK2 K2)|refine And.intro ?_ ?_|intro hb)|(with_reducible rfl)|((with_reducible show @Eq ASt _ _);rfl) )))));all_goals ((try simp only [za,z8,reduceIte,Nat.reduceEqDiff]);(try ((repeat ((fail_if_success (refine hK _ ?_));clear hK K));refine hK _ ?_;clear hK K)))
    all_goals repeat' (first|refine T.zh fun K hK=>?_|refine T.block ?_|(refine T.reg (by kernel_rfl) fun K' hK'=>?_;simp only [bz];(repeat' (first|(with_reducible refine WL.fin ?_;refine hK' _ ?_;clear hK' K')|((with_reducible refine WL.step fun K2 hK2=>?_);simp only [simprocAttr,implies_true,amz,tys,hy,hz,hd,evC];(repeat' with_reducible (first|(refine hK2 _ ?_;clear hK2 K2)|refine And.intro ?_ ?_|intro hb))))))|refine T.skip ?_|refine T.exit ?_|refine T.zf rfl ?_|refine T.ze rfl ?_|refine T.cond rfl (fun hc=>?_) (fun hc=>?_)|refine T.ret ?_|simp only [za,z8,reduceIte,Nat.reduceEqDiff]|((repeat ((fail_if_success (refine hK _ ?_));clear hK K));refine hK _ ?_;clear hK K))
    all_goals (refine hgo hw _ ?_;refine zk.of' rfl ?_;simp only [wks,reduceIte,Nat.reduceEqDiff,ASt.okB,AV.okB,Nat.reduceLT,implies_true,zm (show k<1152921504606846976 by omega)])
  | false =>
   cases h5:(z.kind==5) with
   | true =>
    cases ho:(z.obj==y.obj) with
    | true =>
     cases hf:(z.off==y.off) with
     | true =>
      have hw:z0f y z=true:=by simp [z0f,h5,ho,hf]
      repeat' (first|refine T.zh fun K hK=>?_|refine T.block ?_|(refine T.reg (by kernel_rfl) fun K' hK'=>?_;simp only [bz];(repeat' (first|(with_reducible refine WL.fin ?_;refine hK' _ ?_;clear hK' K')|((with_reducible refine WL.step fun K2 hK2=>?_);simp only [simprocAttr,implies_true,amz,tys,hy,hz,hd,evC];(repeat' with_reducible (first|(refine hK2 _ ?_;clear hK2 K2)|refine And.intro ?_ ?_|intro hb))))))|refine T.skip ?_|refine T.exit ?_|refine T.zf rfl ?_|refine T.ze rfl ?_|refine T.cond rfl (fun hc=>?_) (fun hc=>?_)|refine T.ret ?_|simp only [za,z8,reduceIte,Nat.reduceEqDiff]|((repeat ((fail_if_success (refine hK _ ?_));clear hK K));refine hK _ ?_;clear hK K))
      refine T.comm [some (0,0),some (0,0),some (0,0),some (0,0),some (0,0),some (0,0),some (0,0),some (0,0),some (0,0),some (0,0),some (0,0),some (0,0),some (0,0),some (0,0),some (0,0),some (0,0),some (0,0),some (0,0),some (0,0),some (0,0),some (0,0),some (0,0),some (0,0),some (0,0),some (0,0),some (0,0),some (0,0),some (0,0),some (0,0),some (0,0),some (0,0),some (0,0),some (0,0),some (0,0),some (0,0),some (0,0),some (0,0),some (0,0),some (0,0),some (0,0)] (by kernel_rfl) (by kernel_rfl) fun K' hK'=>?_;simp only [List.map_cons,List.map_nil,List.zip_cons_cons,List.zip_nil_left];(repeat' (first|(with_reducible refine WC.fin ?_;refine hK' _ ?_;clear hK' K')|((first|(with_reducible refine WC.z0P fun K2 hK2=>?_)|(with_reducible refine WC.stepW fun K2 hK2=>?_));simp only [simprocAttr,implies_true,amz,WCg,WCv,WOw,allP,dav,Chk,List.filter_cons,List.filter_nil,bne_self_eq_false,Nat.reduceBneDiff,Bool.false_eq_true,tys,hy,hz,hd,evC,h4,h5,ho,hf];(repeat' (first|(with_reducible refine hK2 _ _ ?_;clear hK2 K2)|with_reducible (first|(refine hK2 _ ?_;clear hK2 K2)|refine And.intro ?_ ?_|intro hb)|(with_reducible rfl)|((with_reducible show @Eq ASt _ _);rfl) )))));all_goals ((try simp only [za,z8,reduceIte,Nat.reduceEqDiff]);(try ((repeat ((fail_if_success (refine hK _ ?_));clear hK K));refine hK _ ?_;clear hK K)))
      all_goals repeat' (first|refine T.zh fun K hK=>?_|refine T.block ?_|(refine T.reg (by kernel_rfl) fun K' hK'=>?_;simp only [bz];(repeat' (first|(with_reducible refine WL.fin ?_;refine hK' _ ?_;clear hK' K')|((with_reducible refine WL.step fun K2 hK2=>?_);simp only [simprocAttr,implies_true,amz,tys,hy,hz,hd,evC];(repeat' with_reducible (first|(refine hK2 _ ?_;clear hK2 K2)|refine And.intro ?_ ?_|intro hb))))))|refine T.skip ?_|refine T.exit ?_|refine T.zf rfl ?_|refine T.ze rfl ?_|refine T.cond rfl (fun hc=>?_) (fun hc=>?_)|refine T.ret ?_|simp only [za,z8,reduceIte,Nat.reduceEqDiff]|((repeat ((fail_if_success (refine hK _ ?_));clear hK K));refine hK _ ?_;clear hK K))
      all_goals (refine zy.ret (.inr rfl) Try.results39 ?_;simp only [zu,zo,zn,simprocAttr,implies_true,amz,tys,];rw [hbad hw])
     | false =>
      have hw:z0f y z=false:=by simp [z0f,h5,ho,hf]
      repeat' (first|refine T.zh fun K hK=>?_|refine T.block ?_|(refine T.reg (by kernel_rfl) fun K' hK'=>?_;simp only [bz];(repeat' (first|(with_reducible refine WL.fin ?_;refine hK' _ ?_;clear hK' K')|((with_reducible refine WL.step fun K2 hK2=>?_);simp only [simprocAttr,implies_true,amz,tys,hy,hz,hd,evC];(repeat' with_reducible (first|(refine hK2 _ ?_;clear hK2 K2)|refine And.intro ?_ ?_|intro hb))))))|refine T.skip ?_|refine T.exit ?_|refine T.zf rfl ?_|refine T.ze rfl ?_|refine T.cond rfl (fun hc=>?_) (fun hc=>?_)|refine T.ret ?_|simp only [za,z8,reduceIte,Nat.reduceEqDiff]|((repeat ((fail_if_success (refine hK _ ?_));clear hK K));refine hK _ ?_;clear hK K))
      refine T.comm [some (0,0),some (0,0),some (0,0),some (0,0),some (0,0),some (0,0),some (0,0),some (0,0),some (0,0),some (0,0),some (0,0),some (0,0),some (0,0),some (0,0),some (0,0),some (0,0),some (0,0),some (0,0),some (0,0),some (0,0),some (0,0),some (0,0),some (0,0),some (0,0),some (0,0),some (0,0),some (0,0),some (0,0),some (0,0),some (0,0),some (0,0),some (0,0),some (0,0),some (0,0),some (0,0),some (0,0),some (0,0),some (0,0),some (0,0),some (0,0)] (by kernel_rfl) (by kernel_rfl) fun K' hK'=>?_;simp only [List.map_cons,List.map_nil,List.zip_cons_cons,List.zip_nil_left];(repeat' (first|(with_reducible refine WC.fin ?_;refine hK' _ ?_;clear hK' K')|((first|(with_reducible refine WC.z0P fun K2 hK2=>?_)|(with_reducible refine WC.stepW fun K2 hK2=>?_));simp only [simprocAttr,implies_true,amz,WCg,WCv,WOw,allP,dav,Chk,List.filter_cons,List.filter_nil,bne_self_eq_false,Nat.reduceBneDiff,Bool.false_eq_true,tys,hy,hz,hd,evC,h4,h5,ho,hf];(repeat' (first|(with_reducible refine hK2 _ _ ?_;clear hK2 K2)|with_reducible (first|(refine hK2 _ ?_;clear hK2 K2)|refine And.intro ?_ ?_|intro hb)|(with_reducible rfl)|((with_reducible show @Eq ASt _ _);rfl) )))));all_goals ((try simp only [za,z8,reduceIte,Nat.reduceEqDiff]);(try ((repeat ((fail_if_success (refine hK _ ?_));clear hK K));refine hK _ ?_;clear hK K)))
      all_goals repeat' (first|refine T.zh fun K hK=>?_|refine T.block ?_|(refine T.reg (by kernel_rfl) fun K' hK'=>?_;simp only [bz];(repeat' (first|(with_reducible refine WL.fin ?_;refine hK' _ ?_;clear hK' K')|((with_reducible refine WL.step fun K2 hK2=>?_);simp only [simprocAttr,implies_true,amz,tys,hy,hz,hd,evC];(repeat' with_reducible (first|(refine hK2 _ ?_;clear hK2 K2)|refine And.intro ?_ ?_|intro hb))))))|refine T.skip ?_|refine T.exit ?_|refine T.zf rfl ?_|refine T.ze rfl ?_|refine T.cond rfl (fun hc=>?_) (fun hc=>?_)|refine T.ret ?_|simp only [za,z8,reduceIte,Nat.reduceEqDiff]|((repeat ((fail_if_success (refine hK _ ?_));clear hK K));refine hK _ ?_;clear hK K))
      all_goals (refine hgo hw _ ?_;refine zk.of' rfl ?_;simp only [wks,reduceIte,Nat.reduceEqDiff,ASt.okB,AV.okB,Nat.reduceLT,implies_true,zm (show k<1152921504606846976 by omega)])
    | false =>
     have hw:z0f y z=false:=by simp [z0f,h5,ho]
     repeat' (first|refine T.zh fun K hK=>?_|refine T.block ?_|(refine T.reg (by kernel_rfl) fun K' hK'=>?_;simp only [bz];(repeat' (first|(with_reducible refine WL.fin ?_;refine hK' _ ?_;clear hK' K')|((with_reducible refine WL.step fun K2 hK2=>?_);simp only [simprocAttr,implies_true,amz,tys,hy,hz,hd,evC];(repeat' with_reducible (first|(refine hK2 _ ?_;clear hK2 K2)|refine And.intro ?_ ?_|intro hb))))))|refine T.skip ?_|refine T.exit ?_|refine T.zf rfl ?_|refine T.ze rfl ?_|refine T.cond rfl (fun hc=>?_) (fun hc=>?_)|refine T.ret ?_|simp only [za,z8,reduceIte,Nat.reduceEqDiff]|((repeat ((fail_if_success (refine hK _ ?_));clear hK K));refine hK _ ?_;clear hK K))
     refine T.comm [some (0,0),some (0,0),some (0,0),some (0,0),some (0,0),some (0,0),some (0,0),some (0,0),some (0,0),some (0,0),some (0,0),some (0,0),some (0,0),some (0,0),some (0,0),some (0,0),some (0,0),some (0,0),some (0,0),some (0,0),some (0,0),some (0,0),some (0,0),some (0,0),some (0,0),some (0,0),some (0,0),some (0,0),some (0,0),some (0,0),some (0,0),some (0,0),some (0,0),some (0,0),some (0,0),some (0,0),some (0,0),some (0,0),some (0,0),some (0,0)] (by kernel_rfl) (by kernel_rfl) fun K' hK'=>?_;simp only [List.map_cons,List.map_nil,List.zip_cons_cons,List.zip_nil_left];(repeat' (first|(with_reducible refine WC.fin ?_;refine hK' _ ?_;clear hK' K')|((first|(with_reducible refine WC.z0P fun K2 hK2=>?_)|(with_reducible refine WC.stepW fun K2 hK2=>?_));simp only [simprocAttr,implies_true,amz,WCg,WCv,WOw,allP,dav,Chk,List.filter_cons,List.filter_nil,bne_self_eq_false,Nat.reduceBneDiff,Bool.false_eq_true,tys,hy,hz,hd,evC,h4,h5,ho];(repeat' (first|(with_reducible refine hK2 _ _ ?_;clear hK2 K2)|with_reducible (first|(refine hK2 _ ?_;clear hK2 K2)|refine And.intro ?_ ?_|intro hb)|(with_reducible rfl)|((with_reducible show @Eq ASt _ _);rfl) )))));all_goals ((try simp only [za,z8,reduceIte,Nat.reduceEqDiff]);(try ((repeat ((fail_if_success (refine hK _ ?_));clear hK K));refine hK _ ?_;clear hK K)))
     all_goals repeat' (first|refine T.zh fun K hK=>?_|refine T.block ?_|(refine T.reg (by kernel_rfl) fun K' hK'=>?_;simp only [bz];(repeat' (first|(with_reducible refine WL.fin ?_;refine hK' _ ?_;clear hK' K')|((with_reducible refine WL.step fun K2 hK2=>?_);simp only [simprocAttr,implies_true,amz,tys,hy,hz,hd,evC];(repeat' with_reducible (first|(refine hK2 _ ?_;clear hK2 K2)|refine And.intro ?_ ?_|intro hb))))))|refine T.skip ?_|refine T.exit ?_|refine T.zf rfl ?_|refine T.ze rfl ?_|refine T.cond rfl (fun hc=>?_) (fun hc=>?_)|refine T.ret ?_|simp only [za,z8,reduceIte,Nat.reduceEqDiff]|((repeat ((fail_if_success (refine hK _ ?_));clear hK K));refine hK _ ?_;clear hK K))
     all_goals (refine hgo hw _ ?_;refine zk.of' rfl ?_;simp only [wks,reduceIte,Nat.reduceEqDiff,ASt.okB,AV.okB,Nat.reduceLT,implies_true,zm (show k<1152921504606846976 by omega)])
   | false =>
    have hw:z0f y z=false:=by simp [z0f,h4,h5]
    repeat' (first|refine T.zh fun K hK=>?_|refine T.block ?_|(refine T.reg (by kernel_rfl) fun K' hK'=>?_;simp only [bz];(repeat' (first|(with_reducible refine WL.fin ?_;refine hK' _ ?_;clear hK' K')|((with_reducible refine WL.step fun K2 hK2=>?_);simp only [simprocAttr,implies_true,amz,tys,hy,hz,hd,evC];(repeat' with_reducible (first|(refine hK2 _ ?_;clear hK2 K2)|refine And.intro ?_ ?_|intro hb))))))|refine T.skip ?_|refine T.exit ?_|refine T.zf rfl ?_|refine T.ze rfl ?_|refine T.cond rfl (fun hc=>?_) (fun hc=>?_)|refine T.ret ?_|simp only [za,z8,reduceIte,Nat.reduceEqDiff]|((repeat ((fail_if_success (refine hK _ ?_));clear hK K));refine hK _ ?_;clear hK K))
    refine T.comm [some (0,0),some (0,0),some (0,0),some (0,0),some (0,0),some (0,0),some (0,0),some (0,0),some (0,0),some (0,0),some (0,0),some (0,0),some (0,0),some (0,0),some (0,0),some (0,0),some (0,0),some (0,0),some (0,0),some (0,0),some (0,0),some (0,0),some (0,0),some (0,0),some (0,0),some (0,0),some (0,0),some (0,0),some (0,0),some (0,0),some (0,0),some (0,0),some (0,0),some (0,0),some (0,0),some (0,0),some (0,0),some (0,0),some (0,0),some (0,0)] (by kernel_rfl) (by kernel_rfl) fun K' hK'=>?_;simp only [List.map_cons,List.map_nil,List.zip_cons_cons,List.zip_nil_left];(repeat' (first|(with_reducible refine WC.fin ?_;refine hK' _ ?_;clear hK' K')|((first|(with_reducible refine WC.z0P fun K2 hK2=>?_)|(with_reducible refine WC.stepW fun K2 hK2=>?_));simp only [simprocAttr,implies_true,amz,WCg,WCv,WOw,allP,dav,Chk,List.filter_cons,List.filter_nil,bne_self_eq_false,Nat.reduceBneDiff,Bool.false_eq_true,tys,hy,hz,hd,evC,h4,h5];(repeat' (first|(with_reducible refine hK2 _ _ ?_;clear hK2 K2)|with_reducible (first|(refine hK2 _ ?_;clear hK2 K2)|refine And.intro ?_ ?_|intro hb)|(with_reducible rfl)|((with_reducible show @Eq ASt _ _);rfl) )))));all_goals ((try simp only [za,z8,reduceIte,Nat.reduceEqDiff]);(try ((repeat ((fail_if_success (refine hK _ ?_));clear hK K));refine hK _ ?_;clear hK K)))
    all_goals repeat' (first|refine T.zh fun K hK=>?_|refine T.block ?_|(refine T.reg (by kernel_rfl) fun K' hK'=>?_;simp only [bz];(repeat' (first|(with_reducible refine WL.fin ?_;refine hK' _ ?_;clear hK' K')|((with_reducible refine WL.step fun K2 hK2=>?_);simp only [simprocAttr,implies_true,amz,tys,hy,hz,hd,evC];(repeat' with_reducible (first|(refine hK2 _ ?_;clear hK2 K2)|refine And.intro ?_ ?_|intro hb))))))|refine T.skip ?_|refine T.exit ?_|refine T.zf rfl ?_|refine T.ze rfl ?_|refine T.cond rfl (fun hc=>?_) (fun hc=>?_)|refine T.ret ?_|simp only [za,z8,reduceIte,Nat.reduceEqDiff]|((repeat ((fail_if_success (refine hK _ ?_));clear hK K));refine hK _ ?_;clear hK K))
    all_goals (refine hgo hw _ ?_;refine zk.of' rfl ?_;simp only [wks,reduceIte,Nat.reduceEqDiff,ASt.okB,AV.okB,Nat.reduceLT,implies_true,zm (show k<1152921504606846976 by omega)])
 ·have hd:decide ((k:Int)<(j:Int))=false:=by simpa using hlt
  obtain rfl:k=j:=by omega
  repeat' (first|refine T.zh fun K hK=>?_|refine T.block ?_|(refine T.reg (by kernel_rfl) fun K' hK'=>?_;simp only [bz];(repeat' (first|(with_reducible refine WL.fin ?_;refine hK' _ ?_;clear hK' K')|((with_reducible refine WL.step fun K2 hK2=>?_);simp only [simprocAttr,implies_true,amz,tys,hd];(repeat' with_reducible (first|(refine hK2 _ ?_;clear hK2 K2)|refine And.intro ?_ ?_|intro hb))))))|refine T.skip ?_|refine T.exit ?_|refine T.zf rfl ?_|refine T.ze rfl ?_|refine T.cond rfl (fun hc=>?_) (fun hc=>?_)|refine T.ret ?_|simp only [za,z8,reduceIte,Nat.reduceEqDiff]|((repeat ((fail_if_success (refine hK _ ?_));clear hK K));refine hK _ ?_;clear hK K))
  refine zy.ret (.inr rfl) Try.results39 ?_;simp only [zu,zo,zn,simprocAttr,implies_true,amz,tys,]
  simp [z7U,hn]
def z4Z (l:List Ev) (x y:Ev) (j:Nat):Bool:=(x.kind==14)&&(x.k==y.g)&&z4N l y j
def kndB (l:List Ev) (x y:Ev) (i j:Nat):Bool :=
 if x.kind==15 then (y.kind==18)&&(y.k==x.k)
 else if x.kind==17 then (y.kind==16)&&(y.k==IntKind.i64.wrap (x.k+x.n))
 else if x.kind==19 then y.kind==20
 else if x.kind==7 then (y.kind==6)||(y.kind==8)
 else if x.kind==9 then y.kind==6
 else if x.kind==10 then y.kind==11
 else if x.kind==12 then y.kind==13
 else if (x.kind==4)||(x.kind==5) then ((y.kind==3)||(y.kind==5))&&z7U l y i j
 else false
def immB (l:List Ev) (x y:Ev) (i j:Nat):Bool :=
 if z2y l x y i j||z4Z l x y j then true
 else if (x.obj != y.obj)||(x.off != y.off) then false
 else kndB l x y i j
theorem z6K (l:List Ev) (i j:Nat) (x y:Ev) (hx:l[i]? = some x) (hy:l[j]? = some y) (hij:i<j) (hl:l.length≤1000000):zq Try.prog 30 [.p (.seq 9 (l.map evC)),.int i,.int j] (.bool (immB l x y i j)):=by
 have hP:=zaE l i j x y hx hy hij hl
 have hF:=first_ok l j y hy hl
 have hA:=atomic_ok l i j y hy hij hl
 refine zq.of Try.func30 rfl 126 rfl (by decide) (by simp [AV.okB]) ?_
 repeat' (first|refine T.zh fun K hK=>?_|refine T.block ?_|refine T.skip ?_|refine T.exit ?_|refine T.zf rfl ?_|refine T.ze rfl ?_|refine T.cond rfl (fun hc=>?_) (fun hc=>?_)|refine T.ret ?_|simp only [za,z8,reduceIte,Nat.reduceEqDiff]|((repeat ((fail_if_success (refine hK _ ?_));clear hK K));refine hK _ ?_;clear hK K))
 (refine T.reg (by kernel_rfl) fun K' hK'=>?_;simp only [bz];(repeat' (first|(with_reducible refine WL.fin ?_;refine hK' _ ?_;clear hK' K')|((with_reducible refine WL.step fun K2 hK2=>?_);simp only [simprocAttr,implies_true,amz,tys,hx,hy,evC];(repeat' with_reducible (first|(refine hK2 _ ?_;clear hK2 K2)|refine And.intro ?_ ?_|intro hb)))));all_goals ((try simp only [za,z8,reduceIte,Nat.reduceEqDiff]);(try ((repeat ((fail_if_success (refine hK _ ?_));clear hK K));refine hK _ ?_;clear hK K))))
 repeat' (first|refine T.zh fun K hK=>?_|refine T.block ?_|refine T.skip ?_|refine T.exit ?_|refine T.zf rfl ?_|refine T.ze rfl ?_|refine T.cond rfl (fun hc=>?_) (fun hc=>?_)|refine T.ret ?_|simp only [za,z8,reduceIte,Nat.reduceEqDiff]|((repeat ((fail_if_success (refine hK _ ?_));clear hK K));refine hK _ ?_;clear hK K))
 (refine T.reg (by kernel_rfl) fun K' hK'=>?_;simp only [bz];(repeat' (first|(with_reducible refine WL.fin ?_;refine hK' _ ?_;clear hK' K')|((with_reducible refine WL.step fun K2 hK2=>?_);simp only [simprocAttr,implies_true,amz,tys,hx,hy,evC];(repeat' with_reducible (first|(refine hK2 _ ?_;clear hK2 K2)|refine And.intro ?_ ?_|intro hb)))));all_goals ((try simp only [za,z8,reduceIte,Nat.reduceEqDiff]);(try ((repeat ((fail_if_success (refine hK _ ?_));clear hK K));refine hK _ ?_;clear hK K))))
 repeat' (first|refine T.zh fun K hK=>?_|refine T.block ?_|refine T.skip ?_|refine T.exit ?_|refine T.zf rfl ?_|refine T.ze rfl ?_|refine T.cond rfl (fun hc=>?_) (fun hc=>?_)|refine T.ret ?_|simp only [za,z8,reduceIte,Nat.reduceEqDiff]|((repeat ((fail_if_success (refine hK _ ?_));clear hK K));refine hK _ ?_;clear hK K))
 (refine T.reg (by kernel_rfl) fun K' hK'=>?_;simp only [bz];(repeat' (first|(with_reducible refine WL.fin ?_;refine hK' _ ?_;clear hK' K')|((with_reducible refine WL.step fun K2 hK2=>?_);simp only [simprocAttr,implies_true,amz,tys,hx,hy,evC];(repeat' with_reducible (first|(refine hK2 _ ?_;clear hK2 K2)|refine And.intro ?_ ?_|intro hb)))));all_goals ((try simp only [za,z8,reduceIte,Nat.reduceEqDiff]);(try ((repeat ((fail_if_success (refine hK _ ?_));clear hK K));refine hK _ ?_;clear hK K))))
 repeat' (first|refine T.zh fun K hK=>?_|refine T.block ?_|refine T.skip ?_|refine T.exit ?_|refine T.zf rfl ?_|refine T.ze rfl ?_|refine T.cond rfl (fun hc=>?_) (fun hc=>?_)|refine T.ret ?_|simp only [za,z8,reduceIte,Nat.reduceEqDiff]|((repeat ((fail_if_success (refine hK _ ?_));clear hK K));refine hK _ ?_;clear hK K))
 suffices hmid : ∀ s',zk s' ⟨[(0,.p (.seq 9 (l.map evC))),(1,.int i),(2,.int j),(6,.bool false),(7,.ptr 0 0),(8,.ptr 1 0),(37,.bool (z2y l x y i j||z4Z l x y j))],[(1,.boxP none 39 ((evC y).map .p)),(0,.boxP none 39 ((evC x).map .p))],126,2⟩→K s' by
  clear hK
  have hK:=hmid
  clear hmid
  cases hp:z2y l x y i j with
  | true =>
   rw [hp] at hP
   (refine T.reg (by kernel_rfl) fun K' hK'=>?_;simp only [bz];(repeat' (first|(with_reducible refine WL.fin ?_;refine hK' _ ?_;clear hK' K')|((with_reducible refine WL.step fun K2 hK2=>?_);simp only [simprocAttr,implies_true,amz,tys,evC];(repeat' (first|with_reducible (first|(refine hK2 _ ?_;clear hK2 K2)|refine And.intro ?_ ?_|intro hb)|((first|(with_reducible apply zg)|(with_reducible apply zl));case h=>exact CallV.plain (Ent.of Try.func37 (by kernel_rfl) rfl) (hP) (by simp [AV.okB])))))));all_goals ((try simp only [za,z8,reduceIte,Nat.reduceEqDiff]);(try ((repeat ((fail_if_success (refine hK _ ?_));clear hK K));refine hK _ ?_;clear hK K))))
   all_goals (refine zk.of' rfl ?_;simp only [wks,reduceIte,Nat.reduceEqDiff,ASt.okB,AV.okB,Nat.reduceLT,implies_true,evC,List.map_cons,List.map_nil,hp,Bool.true_or])
  | false =>
   rw [hp] at hP
   cases h14:(x.kind==14) with
   | false =>
    (refine T.reg (by kernel_rfl) fun K' hK'=>?_;simp only [bz];(repeat' (first|(with_reducible refine WL.fin ?_;refine hK' _ ?_;clear hK' K')|((with_reducible refine WL.step fun K2 hK2=>?_);simp only [simprocAttr,implies_true,amz,tys,evC,h14];(repeat' (first|with_reducible (first|(refine hK2 _ ?_;clear hK2 K2)|refine And.intro ?_ ?_|intro hb)|((first|(with_reducible apply zg)|(with_reducible apply zl));case h=>exact CallV.plain (Ent.of Try.func37 (by kernel_rfl) rfl) (hP) (by simp [AV.okB])))))));all_goals ((try simp only [za,z8,reduceIte,Nat.reduceEqDiff]);(try ((repeat ((fail_if_success (refine hK _ ?_));clear hK K));refine hK _ ?_;clear hK K))))
    all_goals (refine zk.of' rfl ?_;simp only [wks,reduceIte,Nat.reduceEqDiff,ASt.okB,AV.okB,Nat.reduceLT,implies_true,evC,List.map_cons,List.map_nil,z4Z,hp,h14,Bool.false_or,Bool.false_and])
   | true =>
    cases hk:(x.k==y.g) with
    | false =>
     (refine T.reg (by kernel_rfl) fun K' hK'=>?_;simp only [bz];(repeat' (first|(with_reducible refine WL.fin ?_;refine hK' _ ?_;clear hK' K')|((with_reducible refine WL.step fun K2 hK2=>?_);simp only [simprocAttr,implies_true,amz,tys,evC,h14,hk];(repeat' (first|with_reducible (first|(refine hK2 _ ?_;clear hK2 K2)|refine And.intro ?_ ?_|intro hb)|((first|(with_reducible apply zg)|(with_reducible apply zl));case h=>exact CallV.plain (Ent.of Try.func37 (by kernel_rfl) rfl) (hP) (by simp [AV.okB])))))));all_goals ((try simp only [za,z8,reduceIte,Nat.reduceEqDiff]);(try ((repeat ((fail_if_success (refine hK _ ?_));clear hK K));refine hK _ ?_;clear hK K))))
     all_goals (refine zk.of' rfl ?_;simp only [wks,reduceIte,Nat.reduceEqDiff,ASt.okB,AV.okB,Nat.reduceLT,implies_true,evC,List.map_cons,List.map_nil,z4Z,hp,h14,hk,Bool.false_or,Bool.false_and,Bool.and_false])
    | true =>
     (refine T.reg (by kernel_rfl) fun K' hK'=>?_;simp only [bz];(repeat' (first|(with_reducible refine WL.fin ?_;refine hK' _ ?_;clear hK' K')|((with_reducible refine WL.step fun K2 hK2=>?_);simp only [simprocAttr,implies_true,amz,tys,evC,h14,hk];(repeat' (first|with_reducible (first|(refine hK2 _ ?_;clear hK2 K2)|refine And.intro ?_ ?_|intro hb)|((first|(with_reducible apply zg)|(with_reducible apply zl));case h=>exact CallV.plain (Ent.of Try.func37 (by kernel_rfl) rfl) (hP) (by simp [AV.okB]))|((first|(with_reducible apply zg)|(with_reducible apply zl));case h=>exact CallV.plain (Ent.of Try.func38 (by kernel_rfl) rfl) (hF) (by simp [AV.okB])))))));all_goals ((try simp only [za,z8,reduceIte,Nat.reduceEqDiff]);(try ((repeat ((fail_if_success (refine hK _ ?_));clear hK K));refine hK _ ?_;clear hK K))))
     all_goals (refine zk.of' rfl ?_;simp only [wks,reduceIte,Nat.reduceEqDiff,ASt.okB,AV.okB,Nat.reduceLT,implies_true,evC,List.map_cons,List.map_nil,z4Z,hp,h14,hk,Bool.false_or,Bool.true_and])
 intro s' hw
 refine hK s' ?_
 refine T.weak hw ?_
 clear hK hw s'
 cases h1:(z2y l x y i j||z4Z l x y j) with
 | true =>
  repeat' (first|refine T.zh fun K hK=>?_|refine T.block ?_|(refine T.reg (by kernel_rfl) fun K' hK'=>?_;simp only [bz];(repeat' (first|(with_reducible refine WL.fin ?_;refine hK' _ ?_;clear hK' K')|((with_reducible refine WL.step fun K2 hK2=>?_);simp only [simprocAttr,implies_true,amz,tys];(repeat' with_reducible (first|(refine hK2 _ ?_;clear hK2 K2)|refine And.intro ?_ ?_|intro hb))))))|refine T.skip ?_|refine T.exit ?_|refine T.zf rfl ?_|refine T.ze rfl ?_|refine T.cond rfl (fun hc=>?_) (fun hc=>?_)|refine T.ret ?_|simp only [za,z8,reduceIte,Nat.reduceEqDiff]|((repeat ((fail_if_success (refine hK _ ?_));clear hK K));refine hK _ ?_;clear hK K))
  all_goals (refine zy.ret (.inr rfl) Try.results30 ?_;simp only [zu,zo,zn,simprocAttr,implies_true,amz,tys,])
  simp [immB,h1]
 | false =>
  cases ho:(x.obj != y.obj) with
  | true =>
   repeat' (first|refine T.zh fun K hK=>?_|refine T.block ?_|(refine T.reg (by kernel_rfl) fun K' hK'=>?_;simp only [bz];(repeat' (first|(with_reducible refine WL.fin ?_;refine hK' _ ?_;clear hK' K')|((with_reducible refine WL.step fun K2 hK2=>?_);simp only [simprocAttr,implies_true,amz,tys,evC,Bool.not_true,Bool.not_false,bne_self_eq_false,ho];(repeat' with_reducible (first|(refine hK2 _ ?_;clear hK2 K2)|refine And.intro ?_ ?_|intro hb))))))|refine T.skip ?_|refine T.exit ?_|refine T.zf rfl ?_|refine T.ze rfl ?_|refine T.cond rfl (fun hc=>?_) (fun hc=>?_)|refine T.ret ?_|simp only [za,z8,reduceIte,Nat.reduceEqDiff]|((repeat ((fail_if_success (refine hK _ ?_));clear hK K));refine hK _ ?_;clear hK K))
   all_goals (refine zy.ret (.inr rfl) Try.results30 ?_;simp only [zu,zo,zn,simprocAttr,implies_true,amz,tys,];(try simp [immB,kndB,h1,ho]))
  | false =>
   cases hf:(x.off != y.off) with
   | true =>
    repeat' (first|refine T.zh fun K hK=>?_|refine T.block ?_|(refine T.reg (by kernel_rfl) fun K' hK'=>?_;simp only [bz];(repeat' (first|(with_reducible refine WL.fin ?_;refine hK' _ ?_;clear hK' K')|((with_reducible refine WL.step fun K2 hK2=>?_);simp only [simprocAttr,implies_true,amz,tys,evC,Bool.not_true,Bool.not_false,bne_self_eq_false,ho,hf];(repeat' with_reducible (first|(refine hK2 _ ?_;clear hK2 K2)|refine And.intro ?_ ?_|intro hb))))))|refine T.skip ?_|refine T.exit ?_|refine T.zf rfl ?_|refine T.ze rfl ?_|refine T.cond rfl (fun hc=>?_) (fun hc=>?_)|refine T.ret ?_|simp only [za,z8,reduceIte,Nat.reduceEqDiff]|((repeat ((fail_if_success (refine hK _ ?_));clear hK K));refine hK _ ?_;clear hK K))
    all_goals (refine zy.ret (.inr rfl) Try.results30 ?_;simp only [zu,zo,zn,simprocAttr,implies_true,amz,tys,];(try simp [immB,kndB,h1,ho,hf]))
   | false =>
    have hi:immB l x y i j=kndB l x y i j:=by simp [immB,h1,ho,hf]
    rw [hi]
    cases h15:(x.kind==15) with
    | true =>
     cases y18:(y.kind==18) with
     | true =>
      repeat' (first|refine T.zh fun K hK=>?_|refine T.block ?_|(refine T.reg (by kernel_rfl) fun K' hK'=>?_;simp only [bz];(repeat' (first|(with_reducible refine WL.fin ?_;refine hK' _ ?_;clear hK' K')|((with_reducible refine WL.step fun K2 hK2=>?_);simp only [simprocAttr,implies_true,amz,tys,evC,Bool.not_true,Bool.not_false,bne_self_eq_false,ho,hf,h15,y18];(repeat' with_reducible (first|(refine hK2 _ ?_;clear hK2 K2)|refine And.intro ?_ ?_|intro hb))))))|refine T.skip ?_|refine T.exit ?_|refine T.zf rfl ?_|refine T.ze rfl ?_|refine T.cond rfl (fun hc=>?_) (fun hc=>?_)|refine T.ret ?_|simp only [za,z8,reduceIte,Nat.reduceEqDiff]|((repeat ((fail_if_success (refine hK _ ?_));clear hK K));refine hK _ ?_;clear hK K))
      all_goals (refine zy.ret (.inr rfl) Try.results30 ?_;simp only [zu,zo,zn,simprocAttr,implies_true,amz,tys,];(try simp [immB,kndB,h1,ho,hf,h15,y18]))
     | false =>
      repeat' (first|refine T.zh fun K hK=>?_|refine T.block ?_|(refine T.reg (by kernel_rfl) fun K' hK'=>?_;simp only [bz];(repeat' (first|(with_reducible refine WL.fin ?_;refine hK' _ ?_;clear hK' K')|((with_reducible refine WL.step fun K2 hK2=>?_);simp only [simprocAttr,implies_true,amz,tys,evC,Bool.not_true,Bool.not_false,bne_self_eq_false,ho,hf,h15,y18];(repeat' with_reducible (first|(refine hK2 _ ?_;clear hK2 K2)|refine And.intro ?_ ?_|intro hb))))))|refine T.skip ?_|refine T.exit ?_|refine T.zf rfl ?_|refine T.ze rfl ?_|refine T.cond rfl (fun hc=>?_) (fun hc=>?_)|refine T.ret ?_|simp only [za,z8,reduceIte,Nat.reduceEqDiff]|((repeat ((fail_if_success (refine hK _ ?_));clear hK K));refine hK _ ?_;clear hK K))
      all_goals (refine zy.ret (.inr rfl) Try.results30 ?_;simp only [zu,zo,zn,simprocAttr,implies_true,amz,tys,];(try simp [immB,kndB,h1,ho,hf,h15,y18]))
    | false =>
     cases h17:(x.kind==17) with
     | true =>
      cases y16:(y.kind==16) with
      | true =>
       repeat' (first|refine T.zh fun K hK=>?_|refine T.block ?_|(refine T.reg (by kernel_rfl) fun K' hK'=>?_;simp only [bz];(repeat' (first|(with_reducible refine WL.fin ?_;refine hK' _ ?_;clear hK' K')|((with_reducible refine WL.step fun K2 hK2=>?_);simp only [simprocAttr,implies_true,amz,tys,evC,Bool.not_true,Bool.not_false,bne_self_eq_false,ho,hf,h15,h17,y16];(repeat' with_reducible (first|(refine hK2 _ ?_;clear hK2 K2)|refine And.intro ?_ ?_|intro hb))))))|refine T.skip ?_|refine T.exit ?_|refine T.zf rfl ?_|refine T.ze rfl ?_|refine T.cond rfl (fun hc=>?_) (fun hc=>?_)|refine T.ret ?_|simp only [za,z8,reduceIte,Nat.reduceEqDiff]|((repeat ((fail_if_success (refine hK _ ?_));clear hK K));refine hK _ ?_;clear hK K))
       all_goals (refine zy.ret (.inr rfl) Try.results30 ?_;simp only [zu,zo,zn,simprocAttr,implies_true,amz,tys,];(try simp [immB,kndB,h1,ho,hf,h15,h17,y16]))
      | false =>
       repeat' (first|refine T.zh fun K hK=>?_|refine T.block ?_|(refine T.reg (by kernel_rfl) fun K' hK'=>?_;simp only [bz];(repeat' (first|(with_reducible refine WL.fin ?_;refine hK' _ ?_;clear hK' K')|((with_reducible refine WL.step fun K2 hK2=>?_);simp only [simprocAttr,implies_true,amz,tys,evC,Bool.not_true,Bool.not_false,bne_self_eq_false,ho,hf,h15,h17,y16];(repeat' with_reducible (first|(refine hK2 _ ?_;clear hK2 K2)|refine And.intro ?_ ?_|intro hb))))))|refine T.skip ?_|refine T.exit ?_|refine T.zf rfl ?_|refine T.ze rfl ?_|refine T.cond rfl (fun hc=>?_) (fun hc=>?_)|refine T.ret ?_|simp only [za,z8,reduceIte,Nat.reduceEqDiff]|((repeat ((fail_if_success (refine hK _ ?_));clear hK K));refine hK _ ?_;clear hK K))
       all_goals (refine zy.ret (.inr rfl) Try.results30 ?_;simp only [zu,zo,zn,simprocAttr,implies_true,amz,tys,];(try simp [immB,kndB,h1,ho,hf,h15,h17,y16]))
     | false =>
      cases h19:(x.kind==19) with
      | true =>
       repeat' (first|refine T.zh fun K hK=>?_|refine T.block ?_|(refine T.reg (by kernel_rfl) fun K' hK'=>?_;simp only [bz];(repeat' (first|(with_reducible refine WL.fin ?_;refine hK' _ ?_;clear hK' K')|((with_reducible refine WL.step fun K2 hK2=>?_);simp only [simprocAttr,implies_true,amz,tys,evC,Bool.not_true,Bool.not_false,bne_self_eq_false,ho,hf,h15,h17,h19];(repeat' with_reducible (first|(refine hK2 _ ?_;clear hK2 K2)|refine And.intro ?_ ?_|intro hb))))))|refine T.skip ?_|refine T.exit ?_|refine T.zf rfl ?_|refine T.ze rfl ?_|refine T.cond rfl (fun hc=>?_) (fun hc=>?_)|refine T.ret ?_|simp only [za,z8,reduceIte,Nat.reduceEqDiff]|((repeat ((fail_if_success (refine hK _ ?_));clear hK K));refine hK _ ?_;clear hK K))
       all_goals (refine zy.ret (.inr rfl) Try.results30 ?_;simp only [zu,zo,zn,simprocAttr,implies_true,amz,tys,];(try simp [immB,kndB,h1,ho,hf,h15,h17,h19]))
      | false =>
       cases h7:(x.kind==7) with
       | true =>
        cases y6:(y.kind==6) with
        | true =>
         repeat' (first|refine T.zh fun K hK=>?_|refine T.block ?_|(refine T.reg (by kernel_rfl) fun K' hK'=>?_;simp only [bz];(repeat' (first|(with_reducible refine WL.fin ?_;refine hK' _ ?_;clear hK' K')|((with_reducible refine WL.step fun K2 hK2=>?_);simp only [simprocAttr,implies_true,amz,tys,evC,Bool.not_true,Bool.not_false,bne_self_eq_false,ho,hf,h15,h17,h19,h7,y6];(repeat' with_reducible (first|(refine hK2 _ ?_;clear hK2 K2)|refine And.intro ?_ ?_|intro hb))))))|refine T.skip ?_|refine T.exit ?_|refine T.zf rfl ?_|refine T.ze rfl ?_|refine T.cond rfl (fun hc=>?_) (fun hc=>?_)|refine T.ret ?_|simp only [za,z8,reduceIte,Nat.reduceEqDiff]|((repeat ((fail_if_success (refine hK _ ?_));clear hK K));refine hK _ ?_;clear hK K))
         all_goals (refine zy.ret (.inr rfl) Try.results30 ?_;simp only [zu,zo,zn,simprocAttr,implies_true,amz,tys,];(try simp [immB,kndB,h1,ho,hf,h15,h17,h19,h7,y6]))
        | false =>
         repeat' (first|refine T.zh fun K hK=>?_|refine T.block ?_|(refine T.reg (by kernel_rfl) fun K' hK'=>?_;simp only [bz];(repeat' (first|(with_reducible refine WL.fin ?_;refine hK' _ ?_;clear hK' K')|((with_reducible refine WL.step fun K2 hK2=>?_);simp only [simprocAttr,implies_true,amz,tys,evC,Bool.not_true,Bool.not_false,bne_self_eq_false,ho,hf,h15,h17,h19,h7,y6];(repeat' with_reducible (first|(refine hK2 _ ?_;clear hK2 K2)|refine And.intro ?_ ?_|intro hb))))))|refine T.skip ?_|refine T.exit ?_|refine T.zf rfl ?_|refine T.ze rfl ?_|refine T.cond rfl (fun hc=>?_) (fun hc=>?_)|refine T.ret ?_|simp only [za,z8,reduceIte,Nat.reduceEqDiff]|((repeat ((fail_if_success (refine hK _ ?_));clear hK K));refine hK _ ?_;clear hK K))
         all_goals (refine zy.ret (.inr rfl) Try.results30 ?_;simp only [zu,zo,zn,simprocAttr,implies_true,amz,tys,];(try simp [immB,kndB,h1,ho,hf,h15,h17,h19,h7,y6]))
       | false =>
        cases h9:(x.kind==9) with
        | true =>
         repeat' (first|refine T.zh fun K hK=>?_|refine T.block ?_|(refine T.reg (by kernel_rfl) fun K' hK'=>?_;simp only [bz];(repeat' (first|(with_reducible refine WL.fin ?_;refine hK' _ ?_;clear hK' K')|((with_reducible refine WL.step fun K2 hK2=>?_);simp only [simprocAttr,implies_true,amz,tys,evC,Bool.not_true,Bool.not_false,bne_self_eq_false,ho,hf,h15,h17,h19,h7,h9];(repeat' with_reducible (first|(refine hK2 _ ?_;clear hK2 K2)|refine And.intro ?_ ?_|intro hb))))))|refine T.skip ?_|refine T.exit ?_|refine T.zf rfl ?_|refine T.ze rfl ?_|refine T.cond rfl (fun hc=>?_) (fun hc=>?_)|refine T.ret ?_|simp only [za,z8,reduceIte,Nat.reduceEqDiff]|((repeat ((fail_if_success (refine hK _ ?_));clear hK K));refine hK _ ?_;clear hK K))
         all_goals (refine zy.ret (.inr rfl) Try.results30 ?_;simp only [zu,zo,zn,simprocAttr,implies_true,amz,tys,];(try simp [immB,kndB,h1,ho,hf,h15,h17,h19,h7,h9]))
        | false =>
         cases h10:(x.kind==10) with
         | true =>
          repeat' (first|refine T.zh fun K hK=>?_|refine T.block ?_|(refine T.reg (by kernel_rfl) fun K' hK'=>?_;simp only [bz];(repeat' (first|(with_reducible refine WL.fin ?_;refine hK' _ ?_;clear hK' K')|((with_reducible refine WL.step fun K2 hK2=>?_);simp only [simprocAttr,implies_true,amz,tys,evC,Bool.not_true,Bool.not_false,bne_self_eq_false,ho,hf,h15,h17,h19,h7,h9,h10];(repeat' with_reducible (first|(refine hK2 _ ?_;clear hK2 K2)|refine And.intro ?_ ?_|intro hb))))))|refine T.skip ?_|refine T.exit ?_|refine T.zf rfl ?_|refine T.ze rfl ?_|refine T.cond rfl (fun hc=>?_) (fun hc=>?_)|refine T.ret ?_|simp only [za,z8,reduceIte,Nat.reduceEqDiff]|((repeat ((fail_if_success (refine hK _ ?_));clear hK K));refine hK _ ?_;clear hK K))
          all_goals (refine zy.ret (.inr rfl) Try.results30 ?_;simp only [zu,zo,zn,simprocAttr,implies_true,amz,tys,];(try simp [immB,kndB,h1,ho,hf,h15,h17,h19,h7,h9,h10]))
         | false =>
          cases h12:(x.kind==12) with
          | true =>
           repeat' (first|refine T.zh fun K hK=>?_|refine T.block ?_|(refine T.reg (by kernel_rfl) fun K' hK'=>?_;simp only [bz];(repeat' (first|(with_reducible refine WL.fin ?_;refine hK' _ ?_;clear hK' K')|((with_reducible refine WL.step fun K2 hK2=>?_);simp only [simprocAttr,implies_true,amz,tys,evC,Bool.not_true,Bool.not_false,bne_self_eq_false,ho,hf,h15,h17,h19,h7,h9,h10,h12];(repeat' with_reducible (first|(refine hK2 _ ?_;clear hK2 K2)|refine And.intro ?_ ?_|intro hb))))))|refine T.skip ?_|refine T.exit ?_|refine T.zf rfl ?_|refine T.ze rfl ?_|refine T.cond rfl (fun hc=>?_) (fun hc=>?_)|refine T.ret ?_|simp only [za,z8,reduceIte,Nat.reduceEqDiff]|((repeat ((fail_if_success (refine hK _ ?_));clear hK K));refine hK _ ?_;clear hK K))
           all_goals (refine zy.ret (.inr rfl) Try.results30 ?_;simp only [zu,zo,zn,simprocAttr,implies_true,amz,tys,];(try simp [immB,kndB,h1,ho,hf,h15,h17,h19,h7,h9,h10,h12]))
          | false =>
           cases h4:(x.kind==4) with
           | true =>
            cases y3:(y.kind==3) with
            | true =>
             repeat' (first|refine T.zh fun K hK=>?_|refine T.block ?_|(refine T.reg (by kernel_rfl) fun K' hK'=>?_;simp only [bz];(repeat' (first|(with_reducible refine WL.fin ?_;refine hK' _ ?_;clear hK' K')|((with_reducible refine WL.step fun K2 hK2=>?_);simp only [simprocAttr,implies_true,amz,tys,evC,Bool.not_true,Bool.not_false,bne_self_eq_false,ho,hf,h15,h17,h19,h7,h9,h10,h12,h4,y3];(repeat' (first|with_reducible (first|(refine hK2 _ ?_;clear hK2 K2)|refine And.intro ?_ ?_|intro hb)|((first|(with_reducible apply zg)|(with_reducible apply zl));case h=>exact CallV.plain (Ent.of Try.func39 (by kernel_rfl) rfl) (hA) (by simp [AV.okB]))))))))|refine T.skip ?_|refine T.exit ?_|refine T.zf rfl ?_|refine T.ze rfl ?_|refine T.cond rfl (fun hc=>?_) (fun hc=>?_)|refine T.ret ?_|simp only [za,z8,reduceIte,Nat.reduceEqDiff]|((repeat ((fail_if_success (refine hK _ ?_));clear hK K));refine hK _ ?_;clear hK K))
             all_goals (refine zy.ret (.inr rfl) Try.results30 ?_;simp only [zu,zo,zn,simprocAttr,implies_true,amz,tys,];(try simp [immB,kndB,h1,ho,hf,h15,h17,h19,h7,h9,h10,h12,h4,y3]))
            | false =>
             cases y5:(y.kind==5) with
             | true =>
              repeat' (first|refine T.zh fun K hK=>?_|refine T.block ?_|(refine T.reg (by kernel_rfl) fun K' hK'=>?_;simp only [bz];(repeat' (first|(with_reducible refine WL.fin ?_;refine hK' _ ?_;clear hK' K')|((with_reducible refine WL.step fun K2 hK2=>?_);simp only [simprocAttr,implies_true,amz,tys,evC,Bool.not_true,Bool.not_false,bne_self_eq_false,ho,hf,h15,h17,h19,h7,h9,h10,h12,h4,y3,y5];(repeat' (first|with_reducible (first|(refine hK2 _ ?_;clear hK2 K2)|refine And.intro ?_ ?_|intro hb)|((first|(with_reducible apply zg)|(with_reducible apply zl));case h=>exact CallV.plain (Ent.of Try.func39 (by kernel_rfl) rfl) (hA) (by simp [AV.okB]))))))))|refine T.skip ?_|refine T.exit ?_|refine T.zf rfl ?_|refine T.ze rfl ?_|refine T.cond rfl (fun hc=>?_) (fun hc=>?_)|refine T.ret ?_|simp only [za,z8,reduceIte,Nat.reduceEqDiff]|((repeat ((fail_if_success (refine hK _ ?_));clear hK K));refine hK _ ?_;clear hK K))
              all_goals (refine zy.ret (.inr rfl) Try.results30 ?_;simp only [zu,zo,zn,simprocAttr,implies_true,amz,tys,];(try simp [immB,kndB,h1,ho,hf,h15,h17,h19,h7,h9,h10,h12,h4,y3,y5]))
             | false =>
              repeat' (first|refine T.zh fun K hK=>?_|refine T.block ?_|(refine T.reg (by kernel_rfl) fun K' hK'=>?_;simp only [bz];(repeat' (first|(with_reducible refine WL.fin ?_;refine hK' _ ?_;clear hK' K')|((with_reducible refine WL.step fun K2 hK2=>?_);simp only [simprocAttr,implies_true,amz,tys,evC,Bool.not_true,Bool.not_false,bne_self_eq_false,ho,hf,h15,h17,h19,h7,h9,h10,h12,h4,y3,y5];(repeat' (first|with_reducible (first|(refine hK2 _ ?_;clear hK2 K2)|refine And.intro ?_ ?_|intro hb)|((first|(with_reducible apply zg)|(with_reducible apply zl));case h=>exact CallV.plain (Ent.of Try.func39 (by kernel_rfl) rfl) (hA) (by simp [AV.okB]))))))))|refine T.skip ?_|refine T.exit ?_|refine T.zf rfl ?_|refine T.ze rfl ?_|refine T.cond rfl (fun hc=>?_) (fun hc=>?_)|refine T.ret ?_|simp only [za,z8,reduceIte,Nat.reduceEqDiff]|((repeat ((fail_if_success (refine hK _ ?_));clear hK K));refine hK _ ?_;clear hK K))
              all_goals (refine zy.ret (.inr rfl) Try.results30 ?_;simp only [zu,zo,zn,simprocAttr,implies_true,amz,tys,];(try simp [immB,kndB,h1,ho,hf,h15,h17,h19,h7,h9,h10,h12,h4,y3,y5]))
           | false =>
            cases h5:(x.kind==5) with
            | true =>
             cases y3:(y.kind==3) with
             | true =>
              repeat' (first|refine T.zh fun K hK=>?_|refine T.block ?_|(refine T.reg (by kernel_rfl) fun K' hK'=>?_;simp only [bz];(repeat' (first|(with_reducible refine WL.fin ?_;refine hK' _ ?_;clear hK' K')|((with_reducible refine WL.step fun K2 hK2=>?_);simp only [simprocAttr,implies_true,amz,tys,evC,Bool.not_true,Bool.not_false,bne_self_eq_false,ho,hf,h15,h17,h19,h7,h9,h10,h12,h4,h5,y3];(repeat' (first|with_reducible (first|(refine hK2 _ ?_;clear hK2 K2)|refine And.intro ?_ ?_|intro hb)|((first|(with_reducible apply zg)|(with_reducible apply zl));case h=>exact CallV.plain (Ent.of Try.func39 (by kernel_rfl) rfl) (hA) (by simp [AV.okB]))))))))|refine T.skip ?_|refine T.exit ?_|refine T.zf rfl ?_|refine T.ze rfl ?_|refine T.cond rfl (fun hc=>?_) (fun hc=>?_)|refine T.ret ?_|simp only [za,z8,reduceIte,Nat.reduceEqDiff]|((repeat ((fail_if_success (refine hK _ ?_));clear hK K));refine hK _ ?_;clear hK K))
              all_goals (refine zy.ret (.inr rfl) Try.results30 ?_;simp only [zu,zo,zn,simprocAttr,implies_true,amz,tys,];(try simp [immB,kndB,h1,ho,hf,h15,h17,h19,h7,h9,h10,h12,h4,h5,y3]))
             | false =>
              cases y5:(y.kind==5) with
              | true =>
               repeat' (first|refine T.zh fun K hK=>?_|refine T.block ?_|(refine T.reg (by kernel_rfl) fun K' hK'=>?_;simp only [bz];(repeat' (first|(with_reducible refine WL.fin ?_;refine hK' _ ?_;clear hK' K')|((with_reducible refine WL.step fun K2 hK2=>?_);simp only [simprocAttr,implies_true,amz,tys,evC,Bool.not_true,Bool.not_false,bne_self_eq_false,ho,hf,h15,h17,h19,h7,h9,h10,h12,h4,h5,y3,y5];(repeat' (first|with_reducible (first|(refine hK2 _ ?_;clear hK2 K2)|refine And.intro ?_ ?_|intro hb)|((first|(with_reducible apply zg)|(with_reducible apply zl));case h=>exact CallV.plain (Ent.of Try.func39 (by kernel_rfl) rfl) (hA) (by simp [AV.okB]))))))))|refine T.skip ?_|refine T.exit ?_|refine T.zf rfl ?_|refine T.ze rfl ?_|refine T.cond rfl (fun hc=>?_) (fun hc=>?_)|refine T.ret ?_|simp only [za,z8,reduceIte,Nat.reduceEqDiff]|((repeat ((fail_if_success (refine hK _ ?_));clear hK K));refine hK _ ?_;clear hK K))
               all_goals (refine zy.ret (.inr rfl) Try.results30 ?_;simp only [zu,zo,zn,simprocAttr,implies_true,amz,tys,];(try simp [immB,kndB,h1,ho,hf,h15,h17,h19,h7,h9,h10,h12,h4,h5,y3,y5]))
              | false =>
               repeat' (first|refine T.zh fun K hK=>?_|refine T.block ?_|(refine T.reg (by kernel_rfl) fun K' hK'=>?_;simp only [bz];(repeat' (first|(with_reducible refine WL.fin ?_;refine hK' _ ?_;clear hK' K')|((with_reducible refine WL.step fun K2 hK2=>?_);simp only [simprocAttr,implies_true,amz,tys,evC,Bool.not_true,Bool.not_false,bne_self_eq_false,ho,hf,h15,h17,h19,h7,h9,h10,h12,h4,h5,y3,y5];(repeat' (first|with_reducible (first|(refine hK2 _ ?_;clear hK2 K2)|refine And.intro ?_ ?_|intro hb)|((first|(with_reducible apply zg)|(with_reducible apply zl));case h=>exact CallV.plain (Ent.of Try.func39 (by kernel_rfl) rfl) (hA) (by simp [AV.okB]))))))))|refine T.skip ?_|refine T.exit ?_|refine T.zf rfl ?_|refine T.ze rfl ?_|refine T.cond rfl (fun hc=>?_) (fun hc=>?_)|refine T.ret ?_|simp only [za,z8,reduceIte,Nat.reduceEqDiff]|((repeat ((fail_if_success (refine hK _ ?_));clear hK K));refine hK _ ?_;clear hK K))
               all_goals (refine zy.ret (.inr rfl) Try.results30 ?_;simp only [zu,zo,zn,simprocAttr,implies_true,amz,tys,];(try simp [immB,kndB,h1,ho,hf,h15,h17,h19,h7,h9,h10,h12,h4,h5,y3,y5]))
            | false =>
             repeat' (first|refine T.zh fun K hK=>?_|refine T.block ?_|(refine T.reg (by kernel_rfl) fun K' hK'=>?_;simp only [bz];(repeat' (first|(with_reducible refine WL.fin ?_;refine hK' _ ?_;clear hK' K')|((with_reducible refine WL.step fun K2 hK2=>?_);simp only [simprocAttr,implies_true,amz,tys,evC,Bool.not_true,Bool.not_false,bne_self_eq_false,ho,hf,h15,h17,h19,h7,h9,h10,h12,h4,h5];(repeat' with_reducible (first|(refine hK2 _ ?_;clear hK2 K2)|refine And.intro ?_ ?_|intro hb))))))|refine T.skip ?_|refine T.exit ?_|refine T.zf rfl ?_|refine T.ze rfl ?_|refine T.cond rfl (fun hc=>?_) (fun hc=>?_)|refine T.ret ?_|simp only [za,z8,reduceIte,Nat.reduceEqDiff]|((repeat ((fail_if_success (refine hK _ ?_));clear hK K));refine hK _ ?_;clear hK K))
             all_goals (refine zy.ret (.inr rfl) Try.results30 ?_;simp only [zu,zo,zn,simprocAttr,implies_true,amz,tys,];(try simp [immB,kndB,h1,ho,hf,h15,h17,h19,h7,h9,h10,h12,h4,h5]))
end Go.Proofs.Ytdlgoofjechocaa
namespace Go.Proofs.Ytdlgoofjechocaa
open Go.RowKit Go.Sort Go.Maps
theorem zk.frm (s:ASt) (fr' : List (Nat × AV)) (hp' : Hp) (m:Nat) (he : ∀ t,hp'.lookup t=s.hp.lookup t) (hfr : ∀ p ∈ fr',AVle (s.get p.1) p.2) (hok:(fr'.all fun p=>p.2.okB m)=true) (hhp : ∀ t o,hp'.lookup t=some o→t<m∧o.okB m=true):zk s ⟨fr',hp',s.n,m⟩:=fun L loc ac w hr=>by
 refine ⟨loc,⟨hr.defers,hr.size,fun t _=>?_,⟨fun t o ht=>?_,fun t ht=>hr.hp.dead t (by rw [← he t];exact ht),hr.hp.apart,hr.hp.inL,hr.hp.notL⟩⟩,Ext.refl _ _⟩
 ·unfold ASt.get
  cases ht:fr'.lookup t with
  | none=>exact .zB _
  | some x =>
   have hm:=qE ht
   exact (hfr _ hm _ _ _ _ _ (hr.fr t trivial)).low (List.all_eq_true.1 hok _ hm)
 ·obtain ⟨_,u,h3,h4⟩:=hr.hp.at' t o (by rw [← he t];exact ht)
  obtain ⟨h5,h6⟩:=hhp t o ht
  exact ⟨h5,u,h3,h4.low h6⟩
def owns:Nat→Nat→List AV
 | _,0 => []
 | b,n+1 => .own b :: owns (b+1) n
theorem qL : ∀ (n b:Nat),(owns b n).length=n
 | 0,b=>rfl
 | n+1,b=>by rw [owns,List.length_cons,qL n]
theorem z0L : ∀ (n b i:Nat),i<n→(owns b n)[i]? = some (.own (i+b))
 | 0,b,i,h=>by omega
 | n+1,b,0,h=>by simp [owns]
 | n+1,b,i+1,h=>by rw [owns,List.getElem?_cons_succ,z0L n (b+1) i (by omega),show i+(b+1)=i+1+b by omega]
theorem za5 : ∀ (n b:Nat),∀ x ∈ owns b n,∃ i,i<n∧x = .own (i+b)
 | 0,b,x,h=>by cases h
 | n+1,b,x,h=>by
  rcases List.mem_cons.1 h with h|h
  ·exact ⟨0,by omega,by rw [h,Nat.zero_add]⟩
  ·obtain ⟨i,h1,h2⟩:=za5 n (b+1) x h
   exact ⟨i+1,by omega,by rw [h2];congr 1;omega⟩
theorem z3i : ∀ (n b:Nat),owns b (n+1)=owns b n ++ [.own (n+b)]
 | 0,b=>by simp [owns]
 | n+1,b=>by
  rw [owns,z3i n (b+1),owns,List.cons_append,show n+(b+1)=n+1+b by omega]
theorem z2H (t:Nat) (y:AV) : ∀ (n b:Nat),(t<b∨b+n≤t)→(owns b n).map (AV.sub t y)=owns b n
 | 0,b,_=>rfl
 | n+1,b,h=>by
  rw [owns,List.map_cons,z2H t y n (b+1) (by omega)]
  congr 1
  simp only [AV.sub]
  rw [if_neg (by omega)]
theorem z3I (t t' : Nat) : ∀ (n b:Nat),(t<b∨b+n≤t)→(t' < b∨b+n≤t')→(owns b n).map (AV.ren t t')=owns b n
 | 0,b,_,_=>rfl
 | n+1,b,h,h'=>by
  rw [owns,List.map_cons,z3I t t' n (b+1) (by omega) (by omega),AV.qK,if_neg (by omega),if_neg (by omega)]
theorem z1Y (n b m:Nat) (h:b+n≤m):(owns b n).all (AV.okB m)=true:=by
 rw [List.all_eq_true]
 intro x hx
 obtain ⟨i,h1,rfl⟩:=za5 n b x hx
 simp [AV.okB];omega
end Go.Proofs.Ytdlgoofjechocaa
namespace Go.Proofs.Ytdlgoofjechocaa
open Go.RowKit Go.Sort
def qi (l:List Ev) (i j:Nat):Bool:=match l[i]?,l[j]? with
 | some x,some y=>immB l x y i j
 | _,_=>false
def hbB (l:List Ev) (j a:Nat):Bool:=(List.range j).attach.any fun ⟨i,hi⟩=>qi l i j&&(a==i||(decide (a<i)&&hbB l i a))
termination_by j
decreasing_by exact List.mem_range.1 hi
def colB (l:List Ev) (j r a:Nat):Bool:=(List.range j).any fun i=>decide (r≤i)&&qi l i j&&(a==i||(decide (a<i)&&hbB l i a))
theorem z8x (l:List Ev) (j a:Nat):hbB l j a=colB l j 0 a:=by
 rw [hbB,colB]
 simp only [Nat.zero_le,decide_true,Bool.true_and]
 conv=>rhs;rw [← List.attach_map_subtype_val (List.range j)]
 rw [List.any_map];rfl
theorem z5m (l:List Ev) (j a:Nat) (h:hbB l j a=true):a<j:=by
 rw [z8x,colB,List.any_eq_true] at h
 obtain ⟨i,hi,h⟩:=h
 have:=List.mem_range.1 hi
 simp only [Bool.and_eq_true,Bool.or_eq_true,beq_iff_eq,decide_eq_true_eq] at h
 omega
theorem z6v {l:List Ev} {i j:Nat} {x y:Ev} (hx:l[i]? = some x) (hy:l[j]? = some y):qi l i j=immB l x y i j:=by simp [qi,hx,hy]
end Go.Proofs.Ytdlgoofjechocaa
namespace Go.Proofs.Ytdlgoofjechocaa
open Go.RowKit Go.Sort Go.Maps
structure Ed where
 f:Int
 t:Int
 k:Int
def edC (x:Ed):List PV := [.val (.int .i64 x.f),.val (.int .i64 x.t),.val (.int .i64 x.k)]
def pubK (k:Int):Bool := !((k==14)||(k==4)||(k==5)||(k==1)||(k==2)||(k==3))
def rdK (k:Int):Bool:=(k==3)||(k==5)
def aftB (a b:Int):Bool :=
 if a==7 then (b==6)||(b==8) else if a==9 then b==6 else if a==10 then b==11 else if a==12 then b==13 else if a==19 then b==20 else false
def z6h (f e:Ev):Bool:=(f.kind==15)&&(e.kind==18)&&(f.k==e.k)
def z6E (f e:Ev):Bool:=(f.kind==17)&&(e.kind==16)&&(e.k==IntKind.i64.wrap (f.k+e.n))
def z2U (f e:Ev):Bool:=z6h f e||z6E f e||aftB f.kind e.kind
def z03 (l:List Ev) (p:Ev→Bool):Nat→Option Nat
 | 0=>none
 | j+1=>if (l[j]?).any p then some j else z03 l p j
def z0o (g:Int) (d:Ev):Bool:=(d.kind==14)&&(d.k==g)
def wrAt (o f:Int) (z:Ev):Bool:=((z.kind==4)||(z.kind==5))&&(z.obj==o)&&(z.off==f)
def z4r (o f:Int) (z:Ev):Bool:=pubK z.kind&&(z.obj==o)&&(z.off==f)
def atL (l:List Ev) (o f:Int) (j:Nat):List Nat:=(List.range j).filter fun k=>(l[k]?).any (z4r o f)
def z3R (l:List Ev) (e:Ev) (j:Nat):List Ed:=match z03 l (fun d=>d.g==e.g) j with
 | some i => [⟨i,j,0⟩]
 | none=>match z03 l (z0o e.g) j with
  | some i => [⟨i,j,e.kind⟩]
  | none => []
def z1c (l:List Ev) (e:Ev) (j:Nat) (is:List Nat):List Ed:=(is.filter fun i=>(l[i]?).any fun f=>z2U f e).map fun i:Nat=>⟨(i:Int),j,e.kind⟩
def z2N (l:List Ev) (e:Ev) (j:Nat):List Ed:=match z03 l (wrAt e.obj e.off) j with
 | some i=>if rdK e.kind then [⟨i,j,e.kind⟩] else []
 | none => []
def z4s (l:List Ev) (e:Ev) (j:Nat):List Ed:=z3R l e j++z1c l e j (atL l e.obj e.off j)++z2N l e j
def z0v (l:List Ev):Nat→List Ed
 | 0 => []
 | j+1=>z0v l j++match l[j]? with
  | some e=>z4s l e j
  | none => []
theorem z2z {l:List Ev} {j:Nat} {e:Ev} (h:l[j]? = some e) (p:Ev→Bool):z03 l p (j+1)=if p e then some j else z03 l p j:=by
 rw [z03,h];rfl
theorem z5G {l:List Ev} {p:Ev→Bool} : ∀ {j i:Nat},z03 l p j=some i→i<j∧(l[i]?).any p=true
 | 0,i,h=>by cases h
 | j+1,i,h=>by
  rw [z03] at h
  split at h
  ·cases h;exact ⟨Nat.lt_succ_self _,by assumption⟩
  ·have:=z5G h;exact ⟨by omega,this.2⟩
theorem z2R {l:List Ev} {j:Nat} {e:Ev} (h:l[j]? = some e) (o f:Int):atL l o f (j+1)=atL l o f j++if z4r o f e then [j] else []:=by
 unfold atL
 rw [List.range_succ,List.filter_append]
 congr 1
 simp only [List.filter_cons,List.filter_nil,h,Option.any_some]
theorem atL_mem {l:List Ev} {o f:Int} {j i:Nat} (h:i ∈ atL l o f j):i<j∧(l[i]?).any (z4r o f)=true:=by
 unfold atL at h
 obtain ⟨h1,h2⟩:=List.mem_filter.1 h
 exact ⟨List.mem_range.1 h1,h2⟩
theorem z3D {l:List Ev} {j:Nat} {e:Ev} (h:l[j]? = some e):z0v l (j+1)=z0v l j++z4s l e j:=by
 rw [z0v,h]
theorem zas (l:List Ev) (e:Ev) (j i:Nat) (is:List Nat) (f:Ev) (h:l[i]? = some f):z1c l e j (i :: is)=(if z2U f e then [⟨i,j,e.kind⟩] else [])++z1c l e j is:=by
 unfold z1c
 rw [List.filter_cons,h,Option.any_some]
 split <;> simp
noncomputable def plA (m:Int→Int→Option AV) (l:Lit):Option AV:=(unk l).bind fun q=>m q.1 q.2
theorem z6O (m:Int→Int→Option AV) {o p:Int} (ho:inI o) (hp:inI p):plA m (kyl o p)=m o p:=by simp [plA,unk_kyl ho hp]
theorem plA_map (m:Int→Int→Option AV) (F:AV→AV):(fun l=>(plA m l).map F)=plA fun x y=>(m x y).map F:=by
 funext l
 unfold plA
 cases unk l with
 | none=>rfl
 | some q=>rfl
theorem plA_none:plA (fun _ _=>none)=fun _=>none:=by
 funext l
 unfold plA
 cases unk l <;> rfl
end Go.Proofs.Ytdlgoofjechocaa
namespace Go.Proofs.Ytdlgoofjechocaa
open Go.RowKit Go.Sort
def kindP (e:Ev):Bool :=
 if (e.kind==14)=true then e.obj==0&&e.off==0&&e.n==0&&decide (1≤e.k)&&decide (e.k<8)
 else if qD e.kind=true then e.off==0&&decide (e.n≤64)&&(e.k==0||z1y e.kind)
 else e.k==0&&e.n==0
theorem kindP_eq (e:Ev):kindB e=kindP e:=by
 unfold kindB kindP qD z1y
 by_cases h1:e.kind=14
 ·simp only [h1,beq_self_eq_true,reduceIte];rfl
 ·have h1' : (e.kind==14)=false:=by simpa using h1
  rw [h1']
  by_cases h2 : 15≤e.kind∧e.kind≤18
  ·have h3:(e.kind==15||e.kind==16||e.kind==17||e.kind==18)=true:=by simp;omega
   have h4:(decide (15≤e.kind)&&decide (e.kind≤20))=true:=by simp;omega
   have h5:(decide (15≤e.kind)&&decide (e.kind≤18))=true:=by simp;omega
   simp only [h3,h4,h5,Bool.false_eq_true,reduceIte,Bool.or_true,Bool.and_true]
  ·have h3:(e.kind==15||e.kind==16||e.kind==17||e.kind==18)=false:=by simp;omega
   have h5:(decide (15≤e.kind)&&decide (e.kind≤18))=false:=by simp;omega
   by_cases h4:e.kind=19∨e.kind=20
   ·have h6:(decide (15≤e.kind)&&decide (e.kind≤20))=true:=by simp;omega
    have h7:(e.kind==19||e.kind==20)=true:=by simpa using h4
    simp only [h3,h5,h6,h7,Bool.false_eq_true,reduceIte,Bool.or_false]
    cases (e.off==0) <;> cases (e.k==0) <;> simp
   ·have h6:(decide (15≤e.kind)&&decide (e.kind≤20))=false:=by simp;omega
    have h7:(e.kind==19||e.kind==20)=false:=by simpa using h4
    simp only [h3,h5,h6,h7,Bool.false_eq_true,reduceIte]
def begP (e:Ev):Bool := !(!z4o e.kind||decide (e.g<0)||decide (8≤e.g))
theorem begP_eq (e:Ev):z5x e=begP e:=by
 unfold z5x begP z2k z4o
 rw [Bool.eq_iff_iff]
 simp
 omega
theorem flds_ok (e:Ev):((z2t e).map fun x=>AV.int x).all (AV.okB 1)=true:=by simp [AV.okB]
theorem z8t (e:Ev):zq Try.prog 83 [evA e] (.bool (z04 e)):=by
 simp only [evA,evC,List.map_cons,List.map_nil]
 refine zq.of Try.func83 rfl 101 rfl (by decide) (by simp [AV.okB]) ?_
 by_cases hh:begP e=true
 ·have h1:decide (e.g<0)=false:=by simp_all [begP]
  have h2:decide (8≤e.g)=false:=by simp_all [begP]
  have h3:z4o e.kind=true:=by simp_all [begP]
  repeat' (first|refine T.zh fun K hK=>?_|refine T.block ?_|(refine T.reg (by kernel_rfl) fun K' hK'=>?_;simp only [bz];(repeat' (first|(with_reducible refine WL.fin ?_;refine hK' _ ?_;clear hK' K')|((with_reducible refine WL.step fun K2 hK2=>?_);simp only [Nat.reduceEqDiff,Nat.reduceLT,Nat.reduceLeDiff,Nat.reduceAdd,reduceIte,reduceCtorEq,implies_true,Int.reduceEq,Int.reduceNe,Int.reduceLT,Int.reduceLE,Int.reduceSub,Int.reduceAdd,Nat.reduceMul,Nat.reduceMod,amz,tys,h1,h2,h3,Nat.reduceDiv];(repeat' (first|with_reducible (first|(refine hK2 _ ?_;clear hK2 K2)|refine And.intro ?_ ?_|intro hb)|((first|(with_reducible apply zg)|(with_reducible apply zl));case h=>exact CallV.plain (Ent.of Try.func89 (by kernel_rfl) rfl) (z8z _) (by simp [AV.okB]))))))))|refine T.skip ?_|refine T.exit ?_|refine T.zf rfl ?_|refine T.ze rfl ?_|refine T.cond rfl (fun hc=>?_) (fun hc=>?_)|refine T.ret ?_|simp only [za,z8,reduceIte,Nat.reduceEqDiff]|((repeat ((fail_if_success (refine hK _ ?_));clear hK K));refine hK _ ?_;clear hK K))
  refine T.qc (fun k:Nat=>⟨[(0,evA e),(1,.ptr 0 0),(2,.bool false),(33,.agg ((z2t e).map fun x => .int x)),(34,.int k)],[(0,.box 39 ((evC e).map .p))],101,1⟩) (fun k=>k≤7∧(z2t e).all okF=((z2t e).drop k).all okF) (fun k => 7-k) 0 ⟨Nat.zero_le _,rfl⟩ (by refine zk.of' rfl ?_;simp only [wks,reduceIte,Nat.reduceEqDiff,ASt.okB,AV.okB,Nat.reduceLT,implies_true,Int.natCast_zero,evA,evC,z2t,List.map_cons,List.map_nil]) ?_
  rintro k ⟨hk,hn⟩ KL hKL
  simp only [evA,evC,List.map_cons,List.map_nil]
  by_cases hlt:k<7
  ·have hlen:k<(z2t e).length:=hlt
   obtain ⟨x,hx⟩:=zT hlen
   have hd:decide ((k:Int)<7)=true:=by simp;omega
   have hk0:(k:Int)<((7:Nat):Int):=by omega
   have hxm:((z2t e)[k*1]?)=some x:=by rw [Nat.mul_one];exact hx
   rw [drop_at hx,List.all_cons] at hn
   have hcont:okF x=true → ∀ s',zk s' _→KL s':=fun h s' hw=>hKL s' (k+1) hw ⟨by omega,by rw [hn,h];rfl⟩ (by omega)
   have hbad:okF x=false→z04 e=false:=fun h=>by simp [z04,hn,h]
   repeat' (first|refine T.zh fun K hK=>?_|refine T.block ?_|(refine T.reg (by kernel_rfl) fun K' hK'=>?_;simp only [bz];(repeat' (first|(with_reducible refine WL.fin ?_;refine hK' _ ?_;clear hK' K')|((with_reducible refine WL.step fun K2 hK2=>?_);simp only [Nat.reduceEqDiff,Nat.reduceLT,Nat.reduceLeDiff,Nat.reduceAdd,reduceIte,reduceCtorEq,implies_true,Int.reduceEq,Int.reduceNe,Int.reduceLT,Int.reduceLE,Int.reduceSub,Int.reduceAdd,Nat.reduceMul,Nat.reduceMod,amz,tys,hxm,hd,hk0,Option.map_some];(repeat' with_reducible (first|(refine hK2 _ ?_;clear hK2 K2)|refine And.intro ?_ ?_|intro hb))))))|refine T.skip ?_|refine T.exit ?_|refine T.zf rfl ?_|refine T.ze rfl ?_|refine T.cond rfl (fun hc=>?_) (fun hc=>?_)|refine T.ret ?_|simp only [za,z8,reduceIte,Nat.reduceEqDiff]|((repeat ((fail_if_success (refine hK _ ?_));clear hK K));refine hK _ ?_;clear hK K))
   all_goals first
    | ((refine zy.ret (.inr rfl) Try.results83 ?_;simp only [zu,zo,zn,Nat.reduceEqDiff,Nat.reduceLT,Nat.reduceLeDiff,Nat.reduceAdd,reduceIte,reduceCtorEq,implies_true,Int.reduceEq,Int.reduceNe,Int.reduceLT,Int.reduceLE,Int.reduceSub,Int.reduceAdd,Nat.reduceMul,Nat.reduceMod,amz,tys,]);rw [hbad];(focus (simp [okF, *];done)))
    | (refine hcont ?_ _ ?_;(focus (simp_all [okF];done));refine zk.of' rfl ?_;simp only [wks,reduceIte,Nat.reduceEqDiff,ASt.okB,AV.okB,Nat.reduceLT,implies_true,zm (show k<1152921504606846976 by omega),flds_ok,evA,evC,List.map_cons,List.map_nil];done)
  ·have hd:decide ((k:Int)<7)=false:=by simp;omega
   have hk7:k=7:=by omega
   have hn' : (z2t e).all okF=true:=by rw [hn,hk7];rfl
   have hv:z04 e=kindP e:=by simp [z04,begP_eq,hh,hn',← kindP_eq]
   rw [hv]
   repeat' (first|refine T.zh fun K hK=>?_|refine T.block ?_|(refine T.reg (by kernel_rfl) fun K' hK'=>?_;simp only [bz];(repeat' (first|(with_reducible refine WL.fin ?_;refine hK' _ ?_;clear hK' K')|((with_reducible refine WL.step fun K2 hK2=>?_);simp only [Nat.reduceEqDiff,Nat.reduceLT,Nat.reduceLeDiff,Nat.reduceAdd,reduceIte,reduceCtorEq,implies_true,Int.reduceEq,Int.reduceNe,Int.reduceLT,Int.reduceLE,Int.reduceSub,Int.reduceAdd,Nat.reduceMul,Nat.reduceMod,amz,tys,hd];(repeat' (first|with_reducible (first|(refine hK2 _ ?_;clear hK2 K2)|refine And.intro ?_ ?_|intro hb)|((first|(with_reducible apply zg)|(with_reducible apply zl));case h=>exact CallV.plain (Ent.of Try.func85 (by kernel_rfl) rfl) (z6Q _) (by simp [AV.okB]))|((first|(with_reducible apply zg)|(with_reducible apply zl));case h=>exact CallV.plain (Ent.of Try.func90 (by kernel_rfl) rfl) (z6t _) (by simp [AV.okB]))))))))|refine T.skip ?_|refine T.exit ?_|refine T.zf rfl ?_|refine T.ze rfl ?_|refine T.cond rfl (fun hc=>?_) (fun hc=>?_)|refine T.ret ?_|simp only [za,z8,reduceIte,Nat.reduceEqDiff]|((repeat ((fail_if_success (refine hK _ ?_));clear hK K));refine hK _ ?_;clear hK K))
   all_goals first
    | ((refine zy.ret (.inr rfl) Try.results83 ?_;simp only [zu,zo,zn,Nat.reduceEqDiff,Nat.reduceLT,Nat.reduceLeDiff,Nat.reduceAdd,reduceIte,reduceCtorEq,implies_true,Int.reduceEq,Int.reduceNe,Int.reduceLT,Int.reduceLE,Int.reduceSub,Int.reduceAdd,Nat.reduceMul,Nat.reduceMod,amz,tys,]);simp [kindP, *];done)
    | (exfalso;simp_all;done)
 ·have hh' : begP e=false:=by simpa using hh
  have hv:z04 e=false:=by simp [z04,begP_eq,hh']
  rw [hv]
  repeat' (first|refine T.zh fun K hK=>?_|refine T.block ?_|(refine T.reg (by kernel_rfl) fun K' hK'=>?_;simp only [bz];(repeat' (first|(with_reducible refine WL.fin ?_;refine hK' _ ?_;clear hK' K')|((with_reducible refine WL.step fun K2 hK2=>?_);simp only [Nat.reduceEqDiff,Nat.reduceLT,Nat.reduceLeDiff,Nat.reduceAdd,reduceIte,reduceCtorEq,implies_true,Int.reduceEq,Int.reduceNe,Int.reduceLT,Int.reduceLE,Int.reduceSub,Int.reduceAdd,Nat.reduceMul,Nat.reduceMod,amz,tys];(repeat' (first|with_reducible (first|(refine hK2 _ ?_;clear hK2 K2)|refine And.intro ?_ ?_|intro hb)|((first|(with_reducible apply zg)|(with_reducible apply zl));case h=>exact CallV.plain (Ent.of Try.func89 (by kernel_rfl) rfl) (z8z _) (by simp [AV.okB]))))))))|refine T.skip ?_|refine T.exit ?_|refine T.zf rfl ?_|refine T.ze rfl ?_|refine T.cond rfl (fun hc=>?_) (fun hc=>?_)|refine T.ret ?_|simp only [za,z8,reduceIte,Nat.reduceEqDiff]|((repeat ((fail_if_success (refine hK _ ?_));clear hK K));refine hK _ ?_;clear hK K))
  all_goals first
   | ((refine zy.ret (.inr rfl) Try.results83 ?_;simp only [zu,zo,zn,Nat.reduceEqDiff,Nat.reduceLT,Nat.reduceLeDiff,Nat.reduceAdd,reduceIte,reduceCtorEq,implies_true,Int.reduceEq,Int.reduceNe,Int.reduceLT,Int.reduceLE,Int.reduceSub,Int.reduceAdd,Nat.reduceMul,Nat.reduceMod,amz,tys,]);done)
   | (exfalso;simp_all [begP];done)
end Go.Proofs.Ytdlgoofjechocaa
namespace Go.Proofs.Ytdlgoofjechocaa
open Go.RowKit Go.Sort Go.Maps
def chV (c:Ch):Value := .agg #[.int .i64 c.cap,.int .i64 c.sent,.int .i64 c.recv,.bool c.closed]
def muV (m:Mu):Value := .agg #[.bool m.locked,.int .i64 m.readers]
def dnO (d:Int→Int→Bool) (x y:Int):Option Bool:=if d x y=true then some true else none
theorem cv_ch (c:Ch):cv (chV c) = .agg [.int c.cap,.int c.sent,.int c.recv,.bool c.closed]:=by simp [cv,chV,Value.oneCell',AV.int,AV.bool]
theorem cv_mu (m:Mu):cv (muV m) = .agg [.bool m.locked,.int m.readers]:=by simp [cv,muV,Value.oneCell',AV.int,AV.bool]
theorem ch_z (o:Option Ch):(o.map chV).getD (Value.agg { toList := [Value.int IntKind.i64 0,Value.int IntKind.i64 0,Value.int IntKind.i64 0,Value.bool false] })=chV (o.getD ch0):=by cases o <;> rfl
theorem mu_z (o:Option Mu):(o.map muV).getD (Value.agg { toList := [Value.bool false,Value.int IntKind.i64 0] })=muV (o.getD mu0):=by cases o <;> rfl
theorem dn_z (d:Int→Int→Bool) (x y:Int):cv (((dnO d x y).map Value.bool).getD (.bool false)) = .bool (d x y):=by unfold dnO;cases d x y <;> rfl
theorem z2C (m:Int→Option Ch) (o:Int) (c:Ch) {v:Value} (h:v=chV c):updF (inM chV m) (.int .i64 o) (some v)=inM chV fun x=>if x=o then some c else m x:=by subst h;exact z8M _ _ _ _
theorem z7H (m:Int→Int→Option Mu) {o f:Int} (ho:inI o) (hf:inI f) (c:Mu) {v:Value} (h:v=muV c):updF (plM muV m) (kyl o f) (some v)=plM muV fun x y=>if x=o∧y=f then some c else m x y:=by subst h;exact z8X _ _ ho hf _
theorem dn_upd (d:Int→Int→Bool) {o f:Int} (ho:inI o) (hf:inI f):updF (plM Value.bool (dnO d)) (kyl o f) (some (.bool true))=plM Value.bool (dnO fun x y=>decide (x=o∧y=f)||d x y):=by
 rw [z8X _ _ ho hf]
 congr 1
 funext x y
 unfold dnO
 by_cases h:x=o∧y=f
 ·simp [h]
 ·simp [h]
def gpC (g:Gp):List AV := [.p (.seq 1 (g.kinds.map fun x => [pI x])),.int g.obj,.int g.k,.int g.n,.int g.snd,.int g.rcv]
noncomputable def hpS (b:Nat) (s:Ps) (a1 a2 a3:Nat):Hp := [(0,.boxP (some b) 133 (.int s.ev :: .int s.gor :: .own 1 :: .own 2 :: .own 3 :: gpC s.op)),(1,.map none Try.prog 3 a1 (inM chV s.ch)),(2,.map none Try.prog 104 a2 (plM muV s.mu)),(3,.map none Try.prog 104 a3 (plM Value.bool (dnO s.dn)))]
structure Oki (e:Ev):Prop where
 o:inI e.obj
 f:inI e.off
theorem z8e {e:Ev} (h:z04 e=true):Oki e:=by
 simp only [z04,z2t,List.all_cons,okF,Bool.and_eq_true,Bool.not_eq_true',Bool.or_eq_false_iff,decide_eq_false_iff_not] at h
 obtain ⟨_,⟨⟨h1,h2⟩,⟨h3,h4⟩,_⟩,_⟩:=h
 exact ⟨⟨by omega,by omega⟩,by omega,by omega⟩
theorem FinM.ret {P:Program} {fn:Func} {N:Nat} {Q:Hp→AV→Prop} {r:AV} {s s' : ASt} {e:Exit} (he:e = .normal∨e = .ret) {rs:Array ResultVar} (hrs:fn.results=rs) (hw:zk s s') (hN:s'.N=N) (h:zu P s' rs.toList=some r) (hq:Q s'.hp r):FinM P fn N Q e s:=⟨he,s',hw,hN,r,by rw [hrs];exact h,hq⟩
def z8r (s:Ps):Bool:=decide (0<(s.op.kinds.length:Int))
theorem open_ok (b:Nat) (s:Ps) (a1 a2 a3:Nat):MemC Try.prog 77 4 (hpS b s a1 a2 a3) [.ptr 0 0] fun hp' r=>hp' = hpS b s a1 a2 a3∧r = .bool (z8r s):=by
 simp only [hpS,gpC]
 refine MemC.of Try.func77 rfl 14 rfl (by decide) ?_;simp only [z0t,frOf]
 repeat' (first|refine T.zh fun K hK=>?_|refine T.block ?_|(refine T.reg (by kernel_rfl) fun K' hK'=>?_;simp only [bz];(repeat' (first|(with_reducible refine WL.fin ?_;refine hK' _ ?_;clear hK' K')|((with_reducible refine WL.step fun K2 hK2=>?_);simp only [simprocAttr,implies_true,amz,tys];(repeat' with_reducible (first|(refine hK2 _ ?_;clear hK2 K2)|refine And.intro ?_ ?_|intro hb))))))|refine T.skip ?_|refine T.exit ?_|refine T.zf rfl ?_|refine T.ze rfl ?_|refine T.cond rfl (fun hc=>?_) (fun hc=>?_)|refine T.ret ?_|simp only [za,z8,reduceIte,Nat.reduceEqDiff]|((repeat ((fail_if_success (refine hK _ ?_));clear hK K));refine hK _ ?_;clear hK K))
 all_goals (refine FinM.ret (s':=⟨[(2,.bool (z8r s))],hpS b s a1 a2 a3,14,4⟩) (r := .bool (z8r s)) (.inr rfl) Try.results77 (by refine zk.of' rfl ?_;simp only [wks,reduceIte,Nat.reduceEqDiff,ASt.okB,AV.okB,Nat.reduceLT,implies_true,hpS,gpC,z8r]) rfl ?_ ?_;(focus (simp only [zu,zo,zn,simprocAttr,implies_true,amz,tys,];done)))
 all_goals (exact ⟨by simp only [hpS,gpC],rfl⟩)
theorem z4T (b:Nat) (s:Ps) (a1 a2 a3:Nat) (e:Ev) (he:Oki e) (h1:a1<1000000):MemC Try.prog 92 4 (hpS b s a1 a2 a3) [.ptr 0 0,evA e] fun hp' r=>hp' = hpS b (countP s e) (a1+1) a2 a3∧r = .tup []:=by
 simp only [hpS,gpC,evA,evC,List.map_cons,List.map_nil]
 refine MemC.of Try.func92 rfl 33 rfl (by decide) ?_;simp only [z0t,frOf]
 repeat' (first|refine T.zh fun K hK=>?_|refine T.block ?_|(refine T.reg (by kernel_rfl) fun K' hK'=>?_;simp only [bz];(repeat' (first|(with_reducible refine WL.fin ?_;refine hK' _ ?_;clear hK' K')|((with_reducible refine WL.step fun K2 hK2=>?_);simp only [simprocAttr,implies_true,amz,tys];(repeat' with_reducible (first|(refine hK2 _ ?_;clear hK2 K2)|refine And.intro ?_ ?_|intro hb))))))|refine T.skip ?_|refine T.exit ?_|refine T.zf rfl ?_|refine T.ze rfl ?_|refine T.cond rfl (fun hc=>?_) (fun hc=>?_)|refine T.ret ?_|simp only [za,z8,reduceIte,Nat.reduceEqDiff]|((repeat ((fail_if_success (refine hK _ ?_));clear hK K));refine hK _ ?_;clear hK K))
 obtain ⟨c,hc⟩ : ∃ c,(s.ch e.obj).getD ch0=c:=⟨_,rfl⟩
 have hm:a1<maxLen:=by unfold maxLen;omega
 refine T.comm [some (0,1),some (0,1),some (0,1),some (0,1),some (0,1),some (0,1),some (0,1),none,none] (by kernel_rfl) (by kernel_rfl) fun K' hK'=>?_;simp only [List.map_cons,List.map_nil,List.zip_cons_cons,List.zip_nil_left];(repeat' (first|(with_reducible refine WC.fin ?_;refine hK' _ ?_;clear hK' K')|((first|(with_reducible refine WC.z0P fun K2 hK2=>?_)|(with_reducible refine WC.stepW fun K2 hK2=>?_));simp only [simprocAttr,implies_true,amz,WCg,WCv,WOw,allP,dav,Chk,List.filter_cons,List.filter_nil,bne_self_eq_false,Nat.reduceBneDiff,Bool.false_eq_true,tys,z00,qW he.o,z6M,ch_z,cv_ch,hc];(repeat' (first|(with_reducible refine hK2 _ _ ?_;clear hK2 K2)|with_reducible (first|(refine hK2 _ ?_;clear hK2 K2)|refine And.intro ?_ ?_|intro hb)|(with_reducible rfl)|((with_reducible show @Eq ASt _ _);rfl) )))));all_goals ((try simp only [za,z8,reduceIte,Nat.reduceEqDiff]);(try ((repeat ((fail_if_success (refine hK _ ?_));clear hK K));refine hK _ ?_;clear hK K)))
 obtain ⟨d,hd⟩ : ∃ d,z07 c e.kind=d:=⟨_,rfl⟩
 have hq:countP s e=z0g s e.obj d:=by rw [countP,hc,hd]
 rw [hq]
 by_cases k1:(e.kind==15)=true
 ·have hd' : d = { c with sent:=wI (c.sent+1) }:=by rw [← hd,z07,if_pos k1]
  have hu:=z2C s.ch e.obj d (v := .agg #[.int .i64 c.cap,.int .i64 (IntKind.i64.wrap (c.sent+1)),.int .i64 c.recv,.bool c.closed]) (by rw [hd'];rfl)
  repeat' (first|refine T.zh fun K hK=>?_|refine T.block ?_|(refine T.reg (by kernel_rfl) fun K' hK'=>?_;simp only [bz];(repeat' (first|(with_reducible refine WL.fin ?_;refine hK' _ ?_;clear hK' K')|((with_reducible refine WL.step fun K2 hK2=>?_);simp only [simprocAttr,implies_true,amz,tys,k1];(repeat' with_reducible (first|(refine hK2 _ ?_;clear hK2 K2)|refine And.intro ?_ ?_|intro hb))))))|refine T.skip ?_|refine T.exit ?_|refine T.zf rfl ?_|refine T.ze rfl ?_|refine T.cond rfl (fun hc=>?_) (fun hc=>?_)|refine T.ret ?_|simp only [za,z8,reduceIte,Nat.reduceEqDiff]|((repeat ((fail_if_success (refine hK _ ?_));clear hK K));refine hK _ ?_;clear hK K))
  all_goals (refine T.drw 7 (by kernel_rfl) (by kernel_rfl) fun K' hK'=>?_;simp only [List.map_cons,List.map_nil];(repeat' (first|(with_reducible refine WL.fin ?_;refine hK' _ ?_;clear hK' K')|(with_reducible refine WD.fin ?_)|((with_reducible first|refine WL.step fun K2 hK2=>?_|refine WD.step fun K2 hK2=>?_);simp only [simprocAttr,implies_true,amz,tys,z00,qW he.o,hm];(repeat' with_reducible (first|(refine hK2 _ ?_;clear hK2 K2)|refine And.intro ?_ ?_|intro hb)))));all_goals ((try simp only [za,z8,reduceIte,Nat.reduceEqDiff]);(try ((repeat ((fail_if_success (refine hK _ ?_));clear hK K));refine hK _ ?_;clear hK K))))
  all_goals (refine FinM.ret (s':=⟨[],hpS b (z0g s e.obj d) (a1+1) a2 a3,33,4⟩) (r := .tup []) (.inl rfl) Try.results92 (by refine zk.of' rfl ?_;simp only [wks,reduceIte,Nat.reduceEqDiff,ASt.okB,AV.okB,Nat.reduceLT,implies_true,hu,hpS,gpC,z0g]) rfl ?_ ?_;(focus (simp only [zu,zo,zn,simprocAttr,implies_true,amz,tys,];done)))
  all_goals (exact ⟨by simp only [hpS,gpC],rfl⟩)
 have k1' : (e.kind==15)=false:=by simpa using k1
 by_cases k2:(e.kind==17)=true
 ·have hd' : d = { c with recv:=wI (c.recv+1) }:=by rw [← hd,z07,if_neg k1,if_pos k2]
  have hu:=z2C s.ch e.obj d (v := .agg #[.int .i64 c.cap,.int .i64 c.sent,.int .i64 (IntKind.i64.wrap (c.recv+1)),.bool c.closed]) (by rw [hd'];rfl)
  repeat' (first|refine T.zh fun K hK=>?_|refine T.block ?_|(refine T.reg (by kernel_rfl) fun K' hK'=>?_;simp only [bz];(repeat' (first|(with_reducible refine WL.fin ?_;refine hK' _ ?_;clear hK' K')|((with_reducible refine WL.step fun K2 hK2=>?_);simp only [simprocAttr,implies_true,amz,tys,k1',k2];(repeat' with_reducible (first|(refine hK2 _ ?_;clear hK2 K2)|refine And.intro ?_ ?_|intro hb))))))|refine T.skip ?_|refine T.exit ?_|refine T.zf rfl ?_|refine T.ze rfl ?_|refine T.cond rfl (fun hc=>?_) (fun hc=>?_)|refine T.ret ?_|simp only [za,z8,reduceIte,Nat.reduceEqDiff]|((repeat ((fail_if_success (refine hK _ ?_));clear hK K));refine hK _ ?_;clear hK K))
  all_goals (refine T.drw 7 (by kernel_rfl) (by kernel_rfl) fun K' hK'=>?_;simp only [List.map_cons,List.map_nil];(repeat' (first|(with_reducible refine WL.fin ?_;refine hK' _ ?_;clear hK' K')|(with_reducible refine WD.fin ?_)|((with_reducible first|refine WL.step fun K2 hK2=>?_|refine WD.step fun K2 hK2=>?_);simp only [simprocAttr,implies_true,amz,tys,z00,qW he.o,hm];(repeat' with_reducible (first|(refine hK2 _ ?_;clear hK2 K2)|refine And.intro ?_ ?_|intro hb)))));all_goals ((try simp only [za,z8,reduceIte,Nat.reduceEqDiff]);(try ((repeat ((fail_if_success (refine hK _ ?_));clear hK K));refine hK _ ?_;clear hK K))))
  all_goals (refine FinM.ret (s':=⟨[],hpS b (z0g s e.obj d) (a1+1) a2 a3,33,4⟩) (r := .tup []) (.inl rfl) Try.results92 (by refine zk.of' rfl ?_;simp only [wks,reduceIte,Nat.reduceEqDiff,ASt.okB,AV.okB,Nat.reduceLT,implies_true,hu,hpS,gpC,z0g]) rfl ?_ ?_;(focus (simp only [zu,zo,zn,simprocAttr,implies_true,amz,tys,];done)))
  all_goals (exact ⟨by simp only [hpS,gpC],rfl⟩)
 ·have hd' : d=c:=by rw [← hd,z07,if_neg k1,if_neg k2]
  have k2' : (e.kind==17)=false:=by simpa using k2
  have hu:=z2C s.ch e.obj d (v := .agg #[.int .i64 c.cap,.int .i64 c.sent,.int .i64 c.recv,.bool c.closed]) (by rw [hd'];rfl)
  repeat' (first|refine T.zh fun K hK=>?_|refine T.block ?_|(refine T.reg (by kernel_rfl) fun K' hK'=>?_;simp only [bz];(repeat' (first|(with_reducible refine WL.fin ?_;refine hK' _ ?_;clear hK' K')|((with_reducible refine WL.step fun K2 hK2=>?_);simp only [simprocAttr,implies_true,amz,tys,k1',k2'];(repeat' with_reducible (first|(refine hK2 _ ?_;clear hK2 K2)|refine And.intro ?_ ?_|intro hb))))))|refine T.skip ?_|refine T.exit ?_|refine T.zf rfl ?_|refine T.ze rfl ?_|refine T.cond rfl (fun hc=>?_) (fun hc=>?_)|refine T.ret ?_|simp only [za,z8,reduceIte,Nat.reduceEqDiff]|((repeat ((fail_if_success (refine hK _ ?_));clear hK K));refine hK _ ?_;clear hK K))
  all_goals (refine T.drw 7 (by kernel_rfl) (by kernel_rfl) fun K' hK'=>?_;simp only [List.map_cons,List.map_nil];(repeat' (first|(with_reducible refine WL.fin ?_;refine hK' _ ?_;clear hK' K')|(with_reducible refine WD.fin ?_)|((with_reducible first|refine WL.step fun K2 hK2=>?_|refine WD.step fun K2 hK2=>?_);simp only [simprocAttr,implies_true,amz,tys,z00,qW he.o,hm];(repeat' with_reducible (first|(refine hK2 _ ?_;clear hK2 K2)|refine And.intro ?_ ?_|intro hb)))));all_goals ((try simp only [za,z8,reduceIte,Nat.reduceEqDiff]);(try ((repeat ((fail_if_success (refine hK _ ?_));clear hK K));refine hK _ ?_;clear hK K))))
  all_goals (refine FinM.ret (s':=⟨[],hpS b (z0g s e.obj d) (a1+1) a2 a3,33,4⟩) (r := .tup []) (.inl rfl) Try.results92 (by refine zk.of' rfl ?_;simp only [wks,reduceIte,Nat.reduceEqDiff,ASt.okB,AV.okB,Nat.reduceLT,implies_true,hu,hpS,gpC,z0g]) rfl ?_ ?_;(focus (simp only [zu,zo,zn,simprocAttr,implies_true,amz,tys,];done)))
  all_goals (exact ⟨by simp only [hpS,gpC],rfl⟩)
end Go.Proofs.Ytdlgoofjechocaa
