/- Texts Uj, Ue, Bb, Uh, Uk, Qf, Av, Ba, Qg, Bc. -/
import Derived.Scope
import Derived.Shelf.SlSortCmp.Whole1
import Derived.Shelf.SlSortCmp.NoneTotal
import Derived.Ground.SlsfProg
import Derived.Test.YtdlgoofjechocaaZ10
set_option maxHeartbeats 32000000
set_option maxRecDepth 100000
set_option linter.unusedSimpArgs false
set_option linter.unusedVariables false
namespace Go.Proofs.Ytdlgoofjechocaa
open Go.RowKit Go.Sort
def rowZ (ev:List Int):List (List PV):=ev.map fun x => [PV.val (.int .i64 x)]
theorem z1A (ev:List Int):(rowZ ev).length=ev.length:=by simp [rowZ]
theorem qN {ev:List Int} {k:Nat} {x:Int} (h:ev[k]? = some x):(rowZ ev)[k]? = some [PV.val (.int .i64 x)]:=by
 unfold rowZ;rw [List.getElem?_map,h];rfl
def rsnA (o:Bool) (ev:List Int):AV := .agg [.p (.val (.bool o)),.p (.seq 1 (rowZ ev))]
def ixZ (x:Int):List Int→Nat→Int
 | [],_ => -1
 | y :: r,k=>if x==y then (k:Int) else ixZ x r (k+1)
theorem ixZ_mem (x:Int) : ∀ (r:List Int) (k:Nat),decide (0≤ixZ x r k)=r.contains x
 | [],k=>by simp [ixZ]
 | y :: r,k=>by
  rw [ixZ]
  by_cases h:x=y
  ·subst h;simp
  ·have h1:(x==y)=false:=by simpa using h
   rw [h1,if_neg (by simp),ixZ_mem x r (k+1),List.contains_cons,h1];rfl
theorem index_ok (ev:List Int) (x:Int) (hl:ev.length≤1000000):zq Try.prog 35 [.p (.seq 1 (rowZ ev)),.int x] (.int (ixZ x ev 0)):=by
 have hel:=z1A ev
 refine zq.of Try.func35 rfl 19 rfl (by decide) (by simp [AV.okB]) ?_
 repeat' (first|refine T.zh fun K hK=>?_|refine T.block ?_|(refine T.reg (by kernel_rfl) fun K' hK'=>?_;simp only [bz];(repeat' (first|(with_reducible refine WL.fin ?_;refine hK' _ ?_;clear hK' K')|((with_reducible refine WL.step fun K2 hK2=>?_);simp only [simprocAttr,implies_true,amz,tys,hel];(repeat' with_reducible (first|(refine hK2 _ ?_;clear hK2 K2)|refine And.intro ?_ ?_|intro hb))))))|refine T.skip ?_|refine T.exit ?_|refine T.zf rfl ?_|refine T.ze rfl ?_|refine T.cond rfl (fun hc=>?_) (fun hc=>?_)|refine T.ret ?_|simp only [za,z8,reduceIte,Nat.reduceEqDiff]|((repeat ((fail_if_success (refine hK _ ?_));clear hK K));refine hK _ ?_;clear hK K))
 refine T.qc (fun k:Nat=>⟨[(0,.p (.seq 1 (rowZ ev))),(1,.int x),(6,.p (.seq 1 (rowZ ev))),(7,.int ev.length),(8,.int k)],[],19,0⟩) (fun k=>k≤ev.length∧ixZ x ev 0=ixZ x (ev.drop k) k) (fun k=>ev.length-k) 0 ⟨Nat.zero_le _,rfl⟩ (by refine zk.of' rfl ?_;simp only [wks,reduceIte,Nat.reduceEqDiff,ASt.okB,AV.okB,Nat.reduceLT,implies_true,Int.natCast_zero]) ?_
 rintro k ⟨hk,hix⟩ KL hKL
 by_cases hkn:k<ev.length
 ·have hd:decide ((k:Int)<(ev.length:Int))=true:=by simpa using hkn
  have hk0:(0:Int)≤(k:Int):=by omega
  obtain ⟨y,hy⟩:=zT hkn
  have m1:=qN hy
  rw [drop_at hy,ixZ] at hix
  cases hc:(x==y) with
  | true =>
   rw [hc,if_pos rfl] at hix
   rw [hix]
   repeat' (first|refine T.zh fun K hK=>?_|refine T.block ?_|(refine T.reg (by kernel_rfl) fun K' hK'=>?_;simp only [bz];(repeat' (first|(with_reducible refine WL.fin ?_;refine hK' _ ?_;clear hK' K')|((with_reducible refine WL.step fun K2 hK2=>?_);simp only [simprocAttr,implies_true,amz,tys,hd,hk0,Int.toNat_natCast,m1,hc];(repeat' with_reducible (first|(refine hK2 _ ?_;clear hK2 K2)|refine And.intro ?_ ?_|intro hb))))))|refine T.skip ?_|refine T.exit ?_|refine T.zf rfl ?_|refine T.ze rfl ?_|refine T.cond rfl (fun hc=>?_) (fun hc=>?_)|refine T.ret ?_|simp only [za,z8,reduceIte,Nat.reduceEqDiff]|((repeat ((fail_if_success (refine hK _ ?_));clear hK K));refine hK _ ?_;clear hK K))
   all_goals (refine zy.ret (.inr rfl) Try.results35 ?_;simp only [zu,zo,zn,simprocAttr,implies_true,amz,tys,])
  | false =>
   rw [hc,if_neg (by simp)] at hix
   repeat' (first|refine T.zh fun K hK=>?_|refine T.block ?_|(refine T.reg (by kernel_rfl) fun K' hK'=>?_;simp only [bz];(repeat' (first|(with_reducible refine WL.fin ?_;refine hK' _ ?_;clear hK' K')|((with_reducible refine WL.step fun K2 hK2=>?_);simp only [simprocAttr,implies_true,amz,tys,hd,hk0,Int.toNat_natCast,m1,hc];(repeat' with_reducible (first|(refine hK2 _ ?_;clear hK2 K2)|refine And.intro ?_ ?_|intro hb))))))|refine T.skip ?_|refine T.exit ?_|refine T.zf rfl ?_|refine T.ze rfl ?_|refine T.cond rfl (fun hc=>?_) (fun hc=>?_)|refine T.ret ?_|simp only [za,z8,reduceIte,Nat.reduceEqDiff]|((repeat ((fail_if_success (refine hK _ ?_));clear hK K));refine hK _ ?_;clear hK K))
   refine hKL _ (k+1) ?_ ⟨hkn,hix⟩ (by omega)
   refine zk.of' rfl ?_;simp only [wks,reduceIte,Nat.reduceEqDiff,ASt.okB,AV.okB,Nat.reduceLT,implies_true,zm (show k<1152921504606846976 by omega)]
 ·have hd:decide ((k:Int)<(ev.length:Int))=false:=by simpa using hkn
  rw [List.drop_eq_nil_of_le (by omega),ixZ] at hix
  repeat' (first|refine T.zh fun K hK=>?_|refine T.block ?_|(refine T.reg (by kernel_rfl) fun K' hK'=>?_;simp only [bz];(repeat' (first|(with_reducible refine WL.fin ?_;refine hK' _ ?_;clear hK' K')|((with_reducible refine WL.step fun K2 hK2=>?_);simp only [simprocAttr,implies_true,amz,tys,hd];(repeat' with_reducible (first|(refine hK2 _ ?_;clear hK2 K2)|refine And.intro ?_ ?_|intro hb))))))|refine T.skip ?_|refine T.exit ?_|refine T.zf rfl ?_|refine T.ze rfl ?_|refine T.cond rfl (fun hc=>?_) (fun hc=>?_)|refine T.ret ?_|simp only [za,z8,reduceIte,Nat.reduceEqDiff]|((repeat ((fail_if_success (refine hK _ ?_));clear hK K));refine hK _ ?_;clear hK K))
  all_goals (refine zy.ret (.inr rfl) Try.results35 ?_;simp only [zu,zo,zn,simprocAttr,implies_true,amz,tys,hix])
theorem z8S (ev:List Int) (x:Int) (hl:ev.length≤1000000):zq Try.prog 28 [.p (.seq 1 (rowZ ev)),.int x] (.bool (ev.contains x)):=by
 have hi:=index_ok ev x hl
 rw [← ixZ_mem x ev 0]
 refine zq.of Try.func28 rfl 9 rfl (by decide) (by simp [AV.okB]) ?_
 repeat' (first|refine T.zh fun K hK=>?_|refine T.block ?_|(refine T.reg (by kernel_rfl) fun K' hK'=>?_;simp only [bz];(repeat' (first|(with_reducible refine WL.fin ?_;refine hK' _ ?_;clear hK' K')|((with_reducible refine WL.step fun K2 hK2=>?_);simp only [simprocAttr,implies_true,amz,tys];(repeat' (first|with_reducible (first|(refine hK2 _ ?_;clear hK2 K2)|refine And.intro ?_ ?_|intro hb)|((first|(with_reducible apply zg)|(with_reducible apply zl));case h=>exact CallV.plain (Ent.of Try.func35 (by kernel_rfl) rfl) (hi) (by simp [AV.okB]))))))))|refine T.skip ?_|refine T.exit ?_|refine T.zf rfl ?_|refine T.ze rfl ?_|refine T.cond rfl (fun hc=>?_) (fun hc=>?_)|refine T.ret ?_|simp only [za,z8,reduceIte,Nat.reduceEqDiff]|((repeat ((fail_if_success (refine hK _ ?_));clear hK K));refine hK _ ?_;clear hK K))
 all_goals (refine zy.ret (.inr rfl) Try.results28 ?_;simp only [zu,zo,zn,simprocAttr,implies_true,amz,tys,])
def plcB (l:List Ev) (i j:Int):Bool:=(qx l).2 && !(decide (i<0)) && !(decide (j≤i)) && !(decide ((l.length:Int)≤j))
def bfE (E:List Ed) (t:Nat):List Nat:=(E.filter fun e=>e.t==(t:Int)).map fun e=>e.f.toNat
def afE (E:List Ed) (f:Nat):List Nat:=(E.filter fun e=>e.f==(f:Int)).map fun e=>e.t.toNat
theorem z8U (A B:List Ed) (t:Nat):bfE (A++B) t=bfE A t++bfE B t:=by simp [bfE]
theorem z96 (A B:List Ed) (t:Nat):afE (A++B) t=afE A t++afE B t:=by simp [afE]
theorem z5K (f t:Nat) (k:Int) (q:Nat):bfE [⟨f,t,k⟩] q=if q=t then [f] else []:=by
 unfold bfE
 rw [List.filter_cons,List.filter_nil]
 by_cases h:q=t
 ·subst h;simp
 ·rw [if_neg (by simp;omega),if_neg h];rfl
theorem z6d (f t:Nat) (k:Int) (q:Nat):afE [⟨f,t,k⟩] q=if q=f then [t] else []:=by
 unfold afE
 rw [List.filter_cons,List.filter_nil]
 by_cases h:q=f
 ·subst h;simp
 ·rw [if_neg (by simp;omega),if_neg h];rfl
theorem bfE_J (l:List Ev) (m:Nat) : ∀ (k t:Nat),bfE (edJ l m k) t=if t=m then rgF (fun f=>qi l f m) k else []
 | 0,t=>by simp [edJ,bfE,rgF]
 | k+1,t=>by
  rw [edJ,z0T,z8U,bfE_J l m k t]
  by_cases h:t=m
  ·subst h
   rw [if_pos rfl,if_pos rfl]
   cases hi:qi l k t with
   | true=>simp [z5K]
   | false=>simp [bfE]
  ·rw [if_neg h,if_neg h]
   cases hi:qi l k m with
   | true=>simp [z5K,h]
   | false=>simp [bfE]
theorem afE_J (l:List Ev) (m:Nat) : ∀ (k f:Nat),afE (edJ l m k) f=if f<k∧qi l f m=true then [m] else []
 | 0,f=>by simp [edJ,afE]
 | k+1,f=>by
  rw [edJ,z96,afE_J l m k f]
  by_cases h:f=k
  ·subst h
   rw [if_neg (by omega)]
   cases hi:qi l f m with
   | true=>simp [z6d]
   | false=>simp [afE]
  ·have h1:afE (if qi l k m=true then [(⟨(k:Int),(m:Int),kdL l k m⟩ : Ed)] else []) f = []:=by
    cases hi:qi l k m with
    | true=>simp [z6d,h]
    | false=>simp [afE]
   rw [h1,List.append_nil]
   by_cases h2:f<k
   ·have:f<k+1:=by omega
    simp [h2,this]
   ·have : ¬ f<k+1:=by omega
    simp [h2,this]
theorem bfE_U (l:List Ev) : ∀ (n t:Nat),bfE (edU l n) t=if t<n then rgF (fun f=>qi l f t) t else []
 | 0,t=>by simp [edU,bfE]
 | n+1,t=>by
  rw [edU,z8U,bfE_U l n t,bfE_J]
  by_cases h:t=n
  ·subst h;simp
  ·by_cases h2:t<n
   ·have:t<n+1:=by omega
    simp [h,h2,this]
   ·have : ¬ t<n+1:=by omega
    simp [h,h2,this]
theorem afE_U (l:List Ev) (f:Nat) : ∀ n,afE (edU l n) f=rgF (fun t=>decide (f<t)&&qi l f t) n
 | 0=>rfl
 | n+1=>by
  rw [edU,z96,afE_U l f n,afE_J,z0T]
  by_cases h:f<n
  ·cases hi:qi l f n <;> simp [h,hi]
  ·simp [h]
def matI (n:Nat) (F:Nat→List Nat):List (List (List PV)):=(List.range n).map fun t=>qw (F t)
theorem z0U (n:Nat) (F:Nat→List Nat):(matI n F).length=n:=by simp [matI]
theorem z3s {n t:Nat} (F:Nat→List Nat) (h:t<n):(matI n F)[t]? = some (qw (F t)):=by
 unfold matI;rw [List.getElem?_map,List.getElem?_range h];rfl
def upL (F:Nat→List Nat) (t:Nat) (r:List Nat):Nat→List Nat:=fun q=>if q=t then r else F q
theorem matI_nil (n:Nat):matI n (fun _ => [])=List.replicate n []:=by
 simp [matI,qw,List.map_const']
theorem z7a {n:Nat} {F G:Nat→List Nat} (h : ∀ t,t<n→F t=G t):matI n F=matI n G:=by
 unfold matI
 exact List.map_congr_left fun t ht=>by rw [h t (List.mem_range.1 ht)]
theorem bfE_step {E:List Ed} {k f t:Nat} {e:Ed} (he:E[k]? = some e) (h1:e.f=f) (h2:e.t=t):bfE (E.take (k+1))=upL (bfE (E.take k)) t (bfE (E.take k) t ++ [f]):=by
 funext q
 rw [List.take_add_one,he,z8U]
 obtain ⟨ef,et,ek⟩:=e
 cases h1;cases h2
 simp only [Option.toList_some,z5K,upL]
 by_cases h:q=t
 ·subst h;simp [z5K]
 ·simp [z5K,h]
theorem afE_step {E:List Ed} {k f t:Nat} {e:Ed} (he:E[k]? = some e) (h1:e.f=f) (h2:e.t=t):afE (E.take (k+1))=upL (afE (E.take k)) f (afE (E.take k) f ++ [t]):=by
 funext q
 rw [List.take_add_one,he,z96]
 obtain ⟨ef,et,ek⟩:=e
 cases h1;cases h2
 simp only [Option.toList_some,z6d,upL]
 by_cases h:q=f
 ·subst h;simp [z6d]
 ·simp [z6d,h]
def befL (l:List Ev) (t:Nat):List Nat:=rgF (fun f=>qi l f t) t
def aftL (l:List Ev) (f:Nat):List Nat:=rgF (fun t=>decide (f<t)&&qi l f t) l.length
theorem befM_eq (l:List Ev):matI l.length (bfE (edU l l.length))=matI l.length (befL l):=z7a fun t ht=>by rw [bfE_U,if_pos ht];rfl
theorem aftM_eq (l:List Ev):matI l.length (afE (edU l l.length))=matI l.length (aftL l):=z7a fun t ht=>by rw [afE_U];rfl
theorem z01 {l:List Ev} {i j:Int} : plcB l i j=true↔PlcP l i j:=by
 simp only [plcB,PlcP,Bool.and_eq_true,Bool.not_eq_true',decide_eq_false_iff_not]
 constructor
 ·rintro ⟨⟨⟨h1,h2⟩,h3⟩,h4⟩;exact ⟨h1,by omega,by omega,by omega⟩
 ·rintro ⟨h1,h2,h3,h4⟩;exact ⟨⟨⟨h1,by omega⟩,by omega⟩,by omega⟩
noncomputable def expO (l:List Ev) (i j:Int):Bool:=plcB l i j&&decide (0<zO l j.toNat i.toNat)
noncomputable def expE (l:List Ev) (i j:Int):List Nat:=if plcB l i j then (if 0<zO l j.toNat i.toNat then chC l i.toNat j.toNat else z1z l j) else []
def expX (l:List Ev) (i j:Int):Int:=if plcB l i j then 0 else 1
theorem z3A {l:List Ev} {i j:Int} (h:plcB l i j=true):ChkP l i j (expO l i j) (zs (expE l i j)):=by
 have hp:=z01.1 h
 have hi:((i.toNat:Nat):Int)=i:=by have:=hp.2.1;omega
 have hj:((j.toNat:Nat):Int)=j:=by have:=hp.2.1;have:=hp.2.2.1;omega
 unfold expO expE
 rw [h]
 by_cases hv : 0<zO l j.toNat i.toNat
 ·simp only [hv,decide_true,Bool.and_self,if_true]
  have:=za8 (l:=l) (i:=i.toNat) (j:=j.toNat) (by rw [hi,hj];exact hp) hv
  rw [hi,hj] at this
  exact this
 ·simp only [hv,decide_false,Bool.and_false,if_true,if_false]
  have:=cone_fits (l:=l) (i:=i.toNat) (j:=j.toNat) (by rw [hi,hj];exact hp) (by omega)
  rw [hi,hj] at this
  exact this
section
variable {P:Program} {ops:Array Oper} {o:Oper} {s:ASt}
theorem zal (t:TypeId) (len:Nat) (parts:Array (Nat × Operand)) (e0 n0 bytes:Nat) (rows:List (List PV)) (h:o.op = .buildSlice t len parts) (hl:z4b P s t len parts.toList=some (.p (.seq n0 rows))) (ht:qb P t=some (e0,n0,bytes)) (hd : ∀ t,o.dst=some t→t<s.n):z2m P o s ((s.add (.row e0 n0 rows)).put o.dst (.own s.N)):=fun L loc a w hr=>by
 obtain ⟨i0,z0,hu0,hi0,_⟩:=(z15 ht).h
 have hev : ∀ (j i:Nat) (x:AV) (i' : Nat) (v:Value),(parts.toList.map fun p=>(p.1,s.ev p.2))[j]? = some (i,x)→(parts.map fun (i,x)=>(i,a.eval x)).toList[j]? = some (i',v)→i=i' ∧ AR s.N (Dm L loc) loc w x v:=fun j i x i' v h1 h2=>by
  simp only [Array.toList_map,List.getElem?_map,Option.map_eq_some_iff] at h1 h2
  obtain ⟨p,hp,e1⟩:=h1
  obtain ⟨p',hp',e2⟩:=h2
  rw [hp] at hp'
  cases hp'
  cases e1
  cases e2
  exact ⟨rfl,hr.ev p.2 (fun _ _=>trivial)⟩
 have hlen:(parts.map fun (i,x)=>(i,a.eval x)).toList.length=(parts.toList.map fun p=>(p.1,s.ev p.2)).length:=by simp
 unfold z4b at hl
 split at hl
 ·rename_i e hu
  split at hl
  ·rename_i zs n hz hs
   split at hl
   ·rename_i hcond
    obtain ⟨hzl,hn0,hmax,hml⟩:=hcond
    split at hl
    ·rename_i cs hf
     obtain ⟨xs,hxs,hE⟩:=Option.map_eq_some_iff.1 hl
     rw [hu0] at hu
     cases hu
     cases hE
     obtain ⟨i,z,hi,hiz,hzc,hone⟩:=z1h hz
     have hzsz:z.cells.size=n0:=by rw [← hzl,← hzc];simp
     have hz0:Cs s.N (Dm L loc) loc w ((List.range (len*n0)).map fun j => .p (.val (zs.getD (j % n0) undef))) ((Array.range (len*n0)).map fun j=>z.cells[j % z.cells.size]!):=by
      have e1 : ∀ j,z.cells[j % z.cells.size]! = zs.getD (j % n0) undef:=fun j=>by
       have:j % n0<z.cells.size:=by rw [hzsz];exact Nat.mod_lt _ hn0
       rw [hzsz,getElem!_pos z.cells _ this,← hzc,List.getD_eq_getElem?_getD,Array.getElem?_toList,Array.getElem?_eq_getElem this]
       rfl
      have e2:(Array.range (len*n0)).map (fun j=>z.cells[j % z.cells.size]!)=((List.range (len*n0)).map fun j=>zs.getD (j % n0) undef).toArray:=by
       apply Array.ext'
       simp [e1]
      rw [e2]
      have:=Cs.zero s.N (Dm L loc) loc w (vs:=((List.range (len*n0)).map fun j=>zs.getD (j % n0) undef).toArray) (fun v hv=>by
       obtain ⟨j,_,rfl⟩:=List.mem_map.1 (show v ∈ (List.range (len*n0)).map (fun j=>zs.getD (j % n0) undef) from hv)
       have:j % n0<zs.length:=by rw [hzl];exact Nat.mod_lt _ hn0
       rw [List.getD_eq_getElem?_getD,List.getElem?_eq_getElem this]
       exact hone _ (List.getElem_mem this))
      simpa [List.map_map,Function.comp_def] using this
     obtain ⟨us',h1,h2⟩:=z5R hlen hev hz0 hf
     obtain ⟨i',hi',his⟩:=Option.map_eq_some_iff.1 hs
     rw [hi] at hi'
     cases hi'
     have hrun:(Instr.buildSlice t len (parts.map fun (i,x)=>(i,a.eval x))).run P w = .ok (.slice (some ⟨w.heap.size,0,none⟩) len len) (w.alloc (.cells us' e0)):=by
      have hm : ¬ (len*n0 > 2 ^ 24):=by omega
      have hnr : ∀ c:Array Value,(newRow e0 c).run P w = .ok ⟨w.heap.size,0,none⟩ (w.alloc (.cells c e0)):=fun c=>by simp [newRow]
      unfold Instr.buildSlice
      by_cases h0:len*n0=0
      ·have e3:(Array.range (len*n0)).map (fun j=>z.cells[j % z.cells.size]!)=(Array.range (len*n0)).map (fun j=>(#[] : Array Value)[j % (#[] : Array Value).size]!):=by rw [h0];apply Array.ext';simp
       rw [e3] at h1
       simp only [Sem.run_bind,run_underlying hu0,Result.andThen_ok,sizeOf,typeInfo,run_program,hi,his,Sem.run_pure,if_neg hm,if_pos h0,h1,hnr]
      ·simp only [Sem.run_bind,run_underlying hu0,Result.andThen_ok,sizeOf,typeInfo,run_program,hi,his,Sem.run_pure,if_neg hm,if_neg h0,zeroValue,hiz,h1,hnr]
     have hbl:Blw w.heap.size w (w.alloc (.cells us' e0)):=(Blw.refl _ _).alloc (Nat.le_refl _) _
     have hcs:=z3C hxs
     have hcl:cs.length=len*n0:=by
      have : ∀ (ps:List (Nat × AV)) (c c' : List AV),z5w (fun i=>some (i*n0,n0)) c ps=some c' → c'.length=c.length:=by
       intro ps
       induction ps with
       | nil=>intro c c' h;cases h;rfl
       | cons p r ih =>
        intro c c' h
        obtain ⟨k,x⟩:=p
        simp only [z5w] at h
        split at h
        ·split at h
         ·rename_i hc
          rw [ih _ _ h,z0q hc.2]
         ·cases h
        ·cases h
      rw [this _ _ _ hf];simp
     have hxl:xs.length=len*n0:=by rw [← hcl,hcs];simp
     have hub : ∀ b,qz (.slice (some ⟨w.heap.size,0,none⟩) len len)=some b→w.heap.size≤b:=fun b e=>by cases e;exact Nat.le_refl _
     have hus:us'.toList.length=len*n0:=by rw [Array.length_toList,h2.1,hcl]
     have ho:OR (s.N+1) (Dm L (qj loc s.N (.slice (some ⟨w.heap.size,0,none⟩) len len))) (qj loc s.N (.slice (some ⟨w.heap.size,0,none⟩) len len)) (w.alloc (.cells us' e0)) (.slice (some ⟨w.heap.size,0,none⟩) len len) (.row e0 n0 (chunks n0 len xs)):=by
      refine ⟨us'.toList,⟨by rw [hus,z0k],.inr ⟨w.heap.size,len,_,by rw [z0k],Nat.zero_le _,z0d w _ _ rfl,by rw [z0k];exact Nat.le_refl _,hml,by rw [← Array.length_toList,hus],?_⟩⟩,fun r hr'=>?_,fun k r j x hk hx=>?_,fun v hv=>?_⟩
      ·rw [List.take_of_length_le (by rw [hus,z0k];exact Nat.le_refl _)]
      ·obtain ⟨k,hk,rfl⟩:=List.mem_iff_getElem.1 hr'
       rw [z0k] at hk
       have e1:=z2A n0 len xs k _ (List.getElem?_eq_getElem (by rw [z0k];exact hk))
       rw [e1,List.length_take,List.length_drop,hxl]
       have:(k+1)*n0≤len*n0:=Nat.mul_le_mul_right n0 hk
       rw [Nat.add_mul] at this
       omega
      ·have e1:=z2A n0 len xs k _ hk
       rw [e1,List.getElem?_take] at hx
       split at hx
       ·rw [List.getElem?_drop] at hx
        have hx' : cs[k*n0+j]? = some (.p x):=by rw [hcs,List.getElem?_map,hx];rfl
        have h5:=h2.2.1 _ _ hx'
        have hlt:=(List.getElem?_eq_some_iff.1 hx').1
        rw [← h2.1] at hlt
        rw [Array.getD_eq_getD_getElem?,Array.getElem?_eq_getElem hlt] at h5
        refine ⟨us'[k*n0+j],by rw [Array.getElem?_toList,Array.getElem?_eq_getElem hlt],?_⟩
        cases h5 with
        | p _ _ hp=>exact hp.mono (.of_below hbl) (fun k hk hd=>(z2r hd).resolve_left fun e=>by have:=hub k e;omega)
       ·cases hx
      ·obtain ⟨j,hj,rfl⟩:=List.mem_iff_getElem.1 hv
       simp only [Array.length_toList] at hj
       have:=h2.2.2 j hj
       rw [Array.getD_eq_getD_getElem?,Array.getElem?_eq_getElem hj] at this
       simpa using this
     unfold Oper.wp
     have he:(execOp a.eval o).run P w = .ok (.value (.slice (some ⟨w.heap.size,0,none⟩) len len)) (w.alloc (.cells us' e0)):=by
      simp only [execOp,h,Sem.run_bind,hrun,Result.andThen_ok,Sem.run_pure]
     rw [he]
     refine ⟨qj loc s.N (.slice (some ⟨w.heap.size,0,none⟩) len len),?_,.add hbl _ _ hub⟩
     refine (hr.add hbl _ (.row e0 n0 (chunks n0 len xs)) hub ho).put' hd (.own s.N _ (Nat.lt_succ_self _) rfl fun z hz=>?_)
     rw [zI] at hz;cases hz;rfl
    ·cases hl
   ·cases hl
  ·cases hl
 ·cases hl
end
theorem T.regO {F:Fence} [FOk F] {P:Program} {Q:Exit→ASt→Prop} {s:ASt} {id d1 d2:Nat} {o1 o2:Oper} {rest:List Oper} {av:AV} (t:TypeId) (len:Nat) (parts:Array (Nat × Operand)) (e0 n0 bytes:Nat) (rows:List (List PV)) (hd:z2W (o1 :: o2 :: rest)=true) (g1:o1.guard=none) (g2:o2.guard=none) (e1:o1.dst=some d1) (e2:o2.dst=some d2) (l1:d1<s.n) (l2:d2<s.n)
  (h1:aop P s o1.op=some av) (h:o2.op = .buildSlice t len parts) (hl:z4b P (s.put (some d1) av) t len parts.toList=some (.p (.seq n0 rows))) (ht:qb P t=some (e0,n0,bytes))
  (hk : ∀ K:ASt→Prop,(∀ s,Q .normal s→K s)→WL P ((o1 :: o2 :: rest).map (·.dst)) K rest (((s.put (some d1) av).add (.row e0 n0 rows)).put (some d2) (.own s.N))):T F P (.region id (o1 :: o2 :: rest).toArray false) Q s:=by
 refine T.region hd ?_
 refine TL.val (by simp [z4I,g1]) av (z4x h1) (fun t e=>by rw [e1] at e;cases e;exact l1) ?_
 rw [e1]
 refine TL.eff (by simp [z4I,g2]) (zal t len parts e0 n0 bytes rows h hl ht (fun t e=>by rw [e2] at e;cases e;exact l2)) ?_
 rw [e2]
 refine WL.sound ?_
 have:=hk (NQ Q .normal) (fun s h=>⟨rfl,h⟩)
 have hN:(s.put (some d1) av).N=s.N:=rfl
 rw [hN]
 simpa using this
def NoGt (Q:Exit→ASt→Prop):Exit→ASt→Prop
 | .goto _,_=>False
 | e,s=>Q e s
theorem NoGt.ret {Q:Exit→ASt→Prop} {s:ASt} (h:Q .ret s):NoGt Q .ret s:=h
theorem T.scope {P:Program} {Q:Exit→ASt→Prop} {s:ASt} {c:Code} (h:T Fence.wide P c (NoGt Q) s):T Fence.wide P (.scope c) Q s:=fun L loc a w hr =>
 wpIn_wide.2 (wp_scope_straight (wpIn_wide.1 (wpIn_mono (h L loc a w hr) fun e a' w' ⟨s',loc',h1,h2⟩=>by
  cases e with
  | goto l=>exact h1.elim
  | _=>exact ⟨s',loc',h1,h2⟩)))
theorem T.label {F:Fence} {P:Program} {Q:Exit→ASt→Prop} {s:ASt} {l:Nat} (h:Q .normal s):T F P (.label l) Q s:=fun _ loc _ _ hr=>wpIn_label (.of h hr (Ext.refl _ _))
theorem AVle.ownSuf (t n:Nat):AVle (.own t) (.suf t n 0):=fun N D loc w v h=>by
 cases h with
 | own _ _ ht h1 hv=>exact .suf t n 0 v ht h1 fun b l c hb=>⟨0,hv _ hb,fun _=>(Nat.zero_mul n).symm⟩
def rowF (n:Nat) (f:Nat→Int):List (List PV):=(List.range n).map fun a => [PV.val (.int .i64 (f a))]
theorem qB (n:Nat) (f:Nat→Int):(rowF n f).length=n:=by simp [rowF]
theorem z0h {n a:Nat} (f:Nat→Int) (h:a<n):(rowF n f)[a]? = some [PV.val (.int .i64 (f a))]:=by
 unfold rowF;rw [List.getElem?_map,List.getElem?_range h];rfl
def upI (f:Nat→Int) (a:Nat) (v:Int):Nat→Int:=fun q=>if q=a then v else f q
theorem z4M {n a:Nat} (f:Nat→Int) (v:Int) (h:a<n):(rowF n f).set a [PV.val (.int .i64 v)]=rowF n (upI f a v):=by
 apply List.ext_getElem?
 intro q
 rw [List.getElem?_set]
 by_cases hq:q<n
 ·rw [z0h _ hq,z0h _ hq]
  unfold upI
  by_cases e:a=q
  ·subst e;rw [if_pos rfl,if_pos (by rw [qB];exact h),if_pos rfl]
  ·rw [if_neg e,if_neg (fun h=>e h.symm)]
 ·have e : ¬ a=q:=by omega
  rw [if_neg e,List.getElem?_eq_none (by rw [qB];omega),List.getElem?_eq_none (by rw [qB];omega)]
theorem z9z (n:Nat):rowF n (fun _ => 0)=List.replicate n [PV.val (.int .i64 0)]:=by
 simp [rowF,List.map_const']
theorem z1F {n:Nat} {f g:Nat→Int} (h : ∀ a,a<n→f a=g a):rowF n f=rowF n g:=by
 unfold rowF
 exact List.map_congr_left fun a ha=>by rw [h a (List.mem_range.1 ha)]
def dsF (g:Nat→Nat):Nat→Int:=fun a=>(g a:Int)-1
theorem dsF_up (g:Nat→Nat) (p v:Nat):upI (dsF g) p (v:Int)=dsF (upG g p (v+1)):=by
 funext q
 simp only [upI,dsF,upG]
 by_cases h:q=p
 ·rw [if_pos h,if_pos h];omega
 ·rw [if_neg h,if_neg h]
def neg1 (k:Nat):Nat→Int:=fun a=>if a<k then -1 else 0
theorem neg1_zero:neg1 0=fun _ => 0:=by funext a;simp [neg1]
theorem neg1_succ (n k:Nat) (h:k<n):(rowF n (neg1 k)).set k [PV.val (.int .i64 (-1))]=rowF n (neg1 (k+1)):=by
 rw [z4M _ _ h]
 refine z1F fun a _=>?_
 simp only [upI,neg1]
 by_cases e:a=k
 ·rw [if_pos e,if_pos (by omega)]
 ·rw [if_neg e]
  by_cases e2:a<k
  ·rw [if_pos e2,if_pos (by omega)]
  ·rw [if_neg e2,if_neg (by omega)]
theorem neg1_end (n j:Nat) (h:j<n):(rowF n (neg1 n)).set j [PV.val (.int .i64 0)]=rowF n (dsF (upG (fun _ => 0) j 1)):=by
 rw [z4M _ _ h]
 refine z1F fun a ha=>?_
 simp only [upI,neg1,dsF,upG]
 by_cases e:a=j
 ·rw [if_pos e,if_pos e];rfl
 ·rw [if_neg e,if_neg e,if_pos ha];rfl
theorem rowI_drop (r:List Nat) (m:Nat):List.drop m (qw r)=qw (r.drop m):=by simp [qw,List.map_drop]
theorem BfO.top {l:List Ev} {i j:Nat} {g:Nat→Nat} {q:List Nat} (h:BfO l i j g q) {a:Nat} (ha : 0<g a):a≤j∧g a≤j+1:=by
 have h1:=h.ex a ha
 obtain ⟨v,hv⟩ : ∃ v,g a=v+1:=⟨g a-1,by omega⟩
 rw [hv] at h1
 have h2:=z9v h1
 have h3:=z2F (l:=l) (j:=j) (d:=j-a) (k:=a) (Nat.le_refl _) h2
 rw [z2O h1] at h3
 omega
theorem BfI.top {l:List Ev} {i j k:Nat} {S:List Nat} {g:Nat→Nat} {q:List Nat} (h:BfI l i j k S g q) {a:Nat} (ha : 0<g a):a≤j∧g a≤j+1:=by
 have h1:=h.ex a ha
 obtain ⟨v,hv⟩ : ∃ v,g a=v+1:=⟨g a-1,by omega⟩
 rw [hv] at h1
 have h2:=z9v h1
 have h3:=z2F (l:=l) (j:=j) (d:=j-a) (k:=a) (Nat.le_refl _) h2
 rw [z2O h1] at h3
 omega
theorem z9W : ∀ n,uaG (fun _ => 0) n=n
 | 0=>rfl
 | n+1=>by rw [z4B,z9W n,if_pos rfl]
theorem z2E {l:List Ev} {k p:Nat} : p ∈ befL l k↔p<k∧qi l p k=true:=by simp [befL,rgF]
theorem z7x (l:List Ev) (k:Nat):(befL l k).length≤k:=z3d _ _
def befP (l:List Ev):List (List PV):=(matI l.length (befL l)).map fun r => [PV.seq 1 r]
theorem z9p (l:List Ev):(befP l).length=l.length:=by simp [befP,z0U]
theorem befP_at {l:List Ev} {k:Nat} (h:k<l.length):(befP l)[k]? = some [PV.seq 1 (qw (befL l k))]:=by
 unfold befP;rw [List.getElem?_map,z3s _ h];rfl
theorem dist_ok (l:List Ev) (i j:Nat) (hl:l.length≤100000) (hij:i<j) (hj:j<l.length):MemC Try.prog 19 0 [] [.p (.seq 1 (befP l)),.int i,.int j]
  (fun hp' r=>hp' = [] ∧ ∃ g,BfR l i j g∧r = .p (.seq 1 (rowF l.length (dsF g)))):=by
 obtain ⟨n,hn⟩ : ∃ n,n=l.length:=⟨_,rfl⟩
 have hbl:=z9p l
 have hba:=fun k (h:k<l.length)=>befP_at (l:=l) h
 rw [← hn] at hbl
 have hml:n≤maxLen:=by unfold maxLen;omega
 have hm1 : 1≤maxLen:=by unfold maxLen;omega
 have hmb : 8*n≤140737488355328:=by omega
 have ht0:(0:Int).toNat=0:=rfl
 have ht1:(1:Int).toNat=1:=rfl
 have hj0:(0:Int)≤(j:Int):=by omega
 have hjn:j<n:=by omega
 have hend:=neg1_end n j hjn
 have hi0:(0:Int)≤(i:Int):=by omega
 generalize befP l=BP at hbl hba
 refine MemC.of Try.func19 rfl 69 rfl (by decide) ?_;simp only [z0t,frOf]
 repeat' (first|refine T.zh fun K hK=>?_|refine T.block ?_|(refine T.reg (by kernel_rfl) fun K' hK'=>?_;simp only [bz];(repeat' (first|(with_reducible refine WL.fin ?_;refine hK' _ ?_;clear hK' K')|((with_reducible refine WL.step fun K2 hK2=>?_);simp only [simprocAttr,implies_true,amz,tys];(repeat' with_reducible (first|(refine hK2 _ ?_;clear hK2 K2)|refine And.intro ?_ ?_|intro hb))))))|refine T.skip ?_|refine T.exit ?_|refine T.zf rfl ?_|refine T.ze rfl ?_|refine T.cond rfl (fun hc=>?_) (fun hc=>?_)|refine T.ret ?_|simp only [za,z8,reduceIte,Nat.reduceEqDiff]|((repeat ((fail_if_success (refine hK _ ?_));clear hK K));refine hK _ ?_;clear hK K))
 refine T.scope ?_
 repeat' (first|refine T.zh fun K hK=>?_|refine T.block ?_|(refine T.reg (by kernel_rfl) fun K' hK'=>?_;simp only [bz];(repeat' (first|(with_reducible refine WL.fin ?_;refine hK' _ ?_;clear hK' K')|((with_reducible refine WL.step fun K2 hK2=>?_);simp only [simprocAttr,implies_true,amz,tys,hbl,hml,hmb,Int.toNat_natCast,List.length_replicate];(repeat' with_reducible (first|(refine hK2 _ ?_;clear hK2 K2)|refine And.intro ?_ ?_|intro hb))))))|refine T.skip ?_|refine T.exit ?_|refine T.zf rfl ?_|refine T.ze rfl ?_|refine T.cond rfl (fun hc=>?_) (fun hc=>?_)|refine T.ret ?_|simp only [za,z8,reduceIte,Nat.reduceEqDiff]|((repeat ((fail_if_success (refine hK _ ?_));clear hK K));refine hK _ ?_;clear hK K))
 refine T.qc (fun k:Nat=>⟨[(0,.p (.seq 1 BP)),(1,.int i),(2,.int j),(7,.own 0),(17,.int n),(18,.int k)],[(0,.row 3 1 (rowF n (neg1 k)))],69,1⟩) (fun k=>k≤n) (fun k=>n-k) 0 (Nat.zero_le _) (by refine zk.of' rfl ?_;simp only [wks,reduceIte,Nat.reduceEqDiff,ASt.okB,AV.okB,Nat.reduceLT,implies_true,Int.natCast_zero,neg1_zero,z9z]) ?_
 intro k hk KL hKL
 by_cases hkn:k<n
 ·have hd:decide ((k:Int)<(n:Int))=true:=by simpa using hkn
  have hk0:(0:Int)≤(k:Int):=by omega
  have hst:=neg1_succ n k hkn
  repeat' (first|refine T.zh fun K hK=>?_|refine T.block ?_|(refine T.reg (by kernel_rfl) fun K' hK'=>?_;simp only [bz];(repeat' (first|(with_reducible refine WL.fin ?_;refine hK' _ ?_;clear hK' K')|((with_reducible refine WL.step fun K2 hK2=>?_);simp only [simprocAttr,implies_true,amz,tys,hd,hk0,Int.toNat_natCast,qB,hkn,z0h _ hkn,hst];(repeat' with_reducible (first|(refine hK2 _ ?_;clear hK2 K2)|refine And.intro ?_ ?_|intro hb))))))|refine T.skip ?_|refine T.exit ?_|refine T.zf rfl ?_|refine T.ze rfl ?_|refine T.cond rfl (fun hc=>?_) (fun hc=>?_)|refine T.ret ?_|simp only [za,z8,reduceIte,Nat.reduceEqDiff]|((repeat ((fail_if_success (refine hK _ ?_));clear hK K));refine hK _ ?_;clear hK K))
  refine hKL _ (k+1) ?_ hkn (by omega)
  refine zk.of' rfl ?_;simp only [wks,reduceIte,Nat.reduceEqDiff,ASt.okB,AV.okB,Nat.reduceLT,implies_true,zm (show k<1152921504606846976 by omega)]
 ·have hd:decide ((k:Int)<(n:Int))=false:=by simpa using hkn
  have hkn2:k=n:=by omega
  rw [hkn2] at hd ⊢
  repeat' (first|refine T.zh fun K hK=>?_|refine T.block ?_|refine T.skip ?_|refine T.exit ?_|refine T.zf rfl ?_|refine T.ze rfl ?_|refine T.cond rfl (fun hc=>?_) (fun hc=>?_)|refine T.ret ?_|simp only [za,z8,reduceIte,Nat.reduceEqDiff]|((repeat ((fail_if_success (refine hK _ ?_));clear hK K));refine hK _ ?_;clear hK K))
  (refine T.reg (by kernel_rfl) fun K' hK'=>?_;simp only [bz];(repeat' (first|(with_reducible refine WL.fin ?_;refine hK' _ ?_;clear hK' K')|((with_reducible refine WL.step fun K2 hK2=>?_);simp only [simprocAttr,implies_true,amz,tys,hd];(repeat' with_reducible (first|(refine hK2 _ ?_;clear hK2 K2)|refine And.intro ?_ ?_|intro hb)))));all_goals ((try simp only [za,z8,reduceIte,Nat.reduceEqDiff]);(try ((repeat ((fail_if_success (refine hK _ ?_));clear hK K));refine hK _ ?_;clear hK K))))
  repeat' (first|refine T.zh fun K hK=>?_|refine T.block ?_|refine T.skip ?_|refine T.exit ?_|refine T.zf rfl ?_|refine T.ze rfl ?_|refine T.cond rfl (fun hc=>?_) (fun hc=>?_)|refine T.ret ?_|simp only [za,z8,reduceIte,Nat.reduceEqDiff]|((repeat ((fail_if_success (refine hK _ ?_));clear hK K));refine hK _ ?_;clear hK K))
  (refine T.reg (by kernel_rfl) fun K' hK'=>?_;simp only [bz];(repeat' (first|(with_reducible refine WL.fin ?_;refine hK' _ ?_;clear hK' K')|((with_reducible refine WL.step fun K2 hK2=>?_);simp only [simprocAttr,implies_true,amz,tys,hj0,Int.toNat_natCast,qB,hjn,z0h _ hjn,hend];(repeat' with_reducible (first|(refine hK2 _ ?_;clear hK2 K2)|refine And.intro ?_ ?_|intro hb)))));all_goals ((try simp only [za,z8,reduceIte,Nat.reduceEqDiff]);(try ((repeat ((fail_if_success (refine hK _ ?_));clear hK K));refine hK _ ?_;clear hK K))))
  repeat' (first|refine T.zh fun K hK=>?_|refine T.block ?_|refine T.skip ?_|refine T.exit ?_|refine T.zf rfl ?_|refine T.ze rfl ?_|refine T.cond rfl (fun hc=>?_) (fun hc=>?_)|refine T.ret ?_|simp only [za,z8,reduceIte,Nat.reduceEqDiff]|((repeat ((fail_if_success (refine hK _ ?_));clear hK K));refine hK _ ?_;clear hK K))
  refine T.regO (d1 := 28) (d2 := 29) (av := .int j) 24 1 #[(0,.tmp 28)] 3 1 8 [[.val (.int .i64 j)]] (by kernel_rfl) rfl rfl rfl rfl (show 28<69 by decide) (show 29<69 by decide) ?_ rfl ?_ ?_ fun K' hK'=>?_
  ·simp only [List.map_cons,List.map_nil,simprocAttr,implies_true,amz,tys]
  ·simp only [List.map_cons,List.map_nil,hm1,simprocAttr,implies_true,amz,tys]
  ·simp only [tys]
  simp only [z18,frOf,List.map_cons,List.map_nil,ASt.add,zH,Nat.reduceAdd]
  (repeat' (first|(with_reducible refine WL.fin ?_;refine hK' _ ?_;clear hK' K')|(with_reducible refine WD.fin ?_)|((with_reducible first|refine WL.step fun K2 hK2=>?_|refine WD.step fun K2 hK2=>?_);simp only [simprocAttr,implies_true,amz,tys];(repeat' with_reducible (first|(refine hK2 _ ?_;clear hK2 K2)|refine And.intro ?_ ?_|intro hb)))))
  all_goals ((try simp only [za,z8,reduceIte,Nat.reduceEqDiff]);(try ((repeat ((fail_if_success (refine hK _ ?_));clear hK K));refine hK _ ?_;clear hK K)))
  repeat' (first|refine T.zh fun K hK=>?_|refine T.block ?_|refine T.skip ?_|refine T.exit ?_|refine T.zf rfl ?_|refine T.ze rfl ?_|refine T.cond rfl (fun hc=>?_) (fun hc=>?_)|refine T.ret ?_|simp only [za,z8,reduceIte,Nat.reduceEqDiff]|((repeat ((fail_if_success (refine hK _ ?_));clear hK K));refine hK _ ?_;clear hK K))
  refine T.label ?_
  repeat' (first|refine T.zh fun K hK=>?_|refine T.block ?_|refine T.skip ?_|refine T.exit ?_|refine T.zf rfl ?_|refine T.ze rfl ?_|refine T.cond rfl (fun hc=>?_) (fun hc=>?_)|refine T.ret ?_|simp only [za,z8,reduceIte,Nat.reduceEqDiff]|((repeat ((fail_if_success (refine hK _ ?_));clear hK K));refine hK _ ?_;clear hK K))
  have hstart:=BfO.start (l:=l) (show i ≠ j by omega)
  have hua0:uaG (upG (fun _ => 0) j 1) n+1=uaG (fun _ => 0) n:=z8Z rfl Nat.one_pos hjn
  have huan:=z9W n
  refine T.qc (fun p:(Nat→Nat) × List Nat × Nat=>⟨[(0,.p (.seq 1 BP)),(1,.int i),(2,.int j),(7,.own 0),(9,.suf 1 1 p.2.2)],[(0,.row 3 1 (rowF n (dsF p.1))),(1,.row 3 1 (qw p.2.1))],69,2⟩)
   (fun p=>BfO l i j p.1 (p.2.1.drop p.2.2)∧p.2.2≤p.2.1.length ∧ 0<p.2.1.length∧p.2.1.length+uaG p.1 n≤n) (fun p => 2*uaG p.1 n+(p.2.1.length-p.2.2)) (upG (fun _ => 0) j 1,[j],0) ⟨hstart,Nat.zero_le _,by simp,by simp only [List.length_singleton];omega⟩ ?_ ?_
  ·refine zk.of' rfl ?_;simp only [wks,reduceIte,Nat.reduceEqDiff,ASt.okB,AV.okB,Nat.reduceLT,implies_true,AVle.ownSuf,qw,List.map_cons,List.map_nil]
  rintro ⟨g,Q,m⟩ ⟨hB,hmQ,hQ0,hQn⟩ KL2 hKL2
  simp only at hB hmQ hQ0 hQn hKL2 ⊢
  have hQl:=qJ Q
  cases hq:Q.drop m with
  | nil =>
   have hQm:Q.length-m=0:=by have:=congrArg List.length hq;simpa using this
   have hd2:decide ((0:Int)<((Q.length-m:Nat):Int))=false:=by rw [hQm];rfl
   rw [hq] at hB
   repeat' (first|refine T.zh fun K hK=>?_|refine T.block ?_|(refine T.reg (by kernel_rfl) fun K' hK'=>?_;simp only [bz];(repeat' (first|(with_reducible refine WL.fin ?_;refine hK' _ ?_;clear hK' K')|((with_reducible refine WL.step fun K2 hK2=>?_);simp only [simprocAttr,implies_true,amz,tys,hQl,hmQ,hQ0,hd2];(repeat' with_reducible (first|(refine hK2 _ ?_;clear hK2 K2)|refine And.intro ?_ ?_|intro hb))))))|refine T.skip ?_|refine T.exit ?_|refine T.zf rfl ?_|refine T.ze rfl ?_|refine T.cond rfl (fun hc=>?_) (fun hc=>?_)|refine T.ret ?_|simp only [za,z8,reduceIte,Nat.reduceEqDiff]|((repeat ((fail_if_success (refine hK _ ?_));clear hK K));refine hK _ ?_;clear hK K))
   all_goals (refine NoGt.ret ?_)
   all_goals (refine FinM.ret (s':=⟨[(6,.p (.seq 1 (rowF n (dsF g))))],[],69,0⟩) (r := .p (.seq 1 (rowF n (dsF g)))) (.inr rfl) Try.results19 ((zk.frz _ 0).trans (by simp only [ASt.frz,List.filter_cons,List.filter_nil,bne_self_eq_false,Nat.reduceBneDiff,Bool.false_eq_true,simprocAttr,implies_true,amz];refine zk.of' rfl ?_;simp only [wks,reduceIte,Nat.reduceEqDiff,ASt.okB,AV.okB,Nat.reduceLT,implies_true,])) rfl ?_ ?_)
   ·simp only [zu,zo,zn,simprocAttr,implies_true,amz,tys]
   ·exact ⟨rfl,g,hB.fin,by rw [hn]⟩
  | cons k q =>
   have hmlt:m<Q.length:=by
    by_cases e:m<Q.length
    ·exact e
    ·rw [List.drop_eq_nil_of_le (by omega)] at hq;cases hq
   have hQk:Q[m]? = some k:=by
    have:=congrArg (fun r=>r[0]?) hq
    simpa [List.getElem?_drop] using this
   have hq1:Q.drop (m+1)=q:=by rw [← List.tail_drop,hq];rfl
   have hd2:decide ((0:Int)<((Q.length-m:Nat):Int))=true:=by simp;omega
   have m1:=z3v hQk
   rw [hq] at hB
   have hI:=hB.pop
   have hk0:=hB.qs k List.mem_cons_self
   have hkj:=(hB.top hk0).1
   have hkn:k<l.length:=by omega
   have hba:=hba k hkn
   have hki:(0:Int)≤(k:Int):=by omega
   have hm1Q:m+1≤Q.length:=hmlt
   have hbl:=qJ (befL l k)
   have hbk:=z7x l k
   repeat' (first|refine T.zh fun K hK=>?_|refine T.block ?_|(refine T.reg (by kernel_rfl) fun K' hK'=>?_;simp only [bz];(repeat' (first|(with_reducible refine WL.fin ?_;refine hK' _ ?_;clear hK' K')|((with_reducible refine WL.step fun K2 hK2=>?_);simp only [simprocAttr,implies_true,amz,tys,hQl,hmQ,hQ0,hd2,ht0,ht1,Nat.add_zero,hmlt,m1,hm1Q,hki,Int.toNat_natCast,hba,hbl];(repeat' with_reducible (first|(refine hK2 _ ?_;clear hK2 K2)|refine And.intro ?_ ?_|intro hb))))))|refine T.skip ?_|refine T.exit ?_|refine T.zf rfl ?_|refine T.ze rfl ?_|refine T.cond rfl (fun hc=>?_) (fun hc=>?_)|refine T.ret ?_|simp only [za,z8,reduceIte,Nat.reduceEqDiff]|((repeat ((fail_if_success (refine hK _ ?_));clear hK K));refine hK _ ?_;clear hK K))
   refine T.qc (fun p:(Nat→Nat) × List Nat × Nat × Nat=>⟨[(0,.p (.seq 1 BP)),(1,.int i),(2,.int j),(7,.own 0),(9,.suf 1 1 p.2.2.1),(10,.int k),(41,.p (.seq 1 (qw (befL l k)))),(42,.int (befL l k).length),(43,.int p.2.2.2)],[(0,.row 3 1 (rowF n (dsF p.1))),(1,.row 3 1 (qw p.2.1))],69,2⟩)
    (fun p=>p.2.2.2≤(befL l k).length∧BfI l i j k ((befL l k).take p.2.2.2) p.1 (p.2.1.drop p.2.2.1)∧p.2.2.1≤p.2.1.length ∧ 0<p.2.1.length∧p.2.1.length+uaG p.1 n≤n ∧ 2*uaG p.1 n+(p.2.1.length-p.2.2.1)+1≤2*uaG g n+(Q.length-m)) (fun p=>(befL l k).length-p.2.2.2) (g,Q,m+1,0) ⟨Nat.zero_le _,by rw [List.take_zero,hq1];exact hI,hm1Q,hQ0,hQn,by simp only;omega⟩ (by refine zk.of' rfl ?_;simp only [wks,reduceIte,Nat.reduceEqDiff,ASt.okB,AV.okB,Nat.reduceLT,implies_true,Int.natCast_zero]) ?_
   rintro ⟨g2,Q2,m2,x⟩ ⟨hx,hI2,hmQ2,hQ02,hQn2,hM⟩ KL3 hKL3
   simp only at hx hI2 hmQ2 hQ02 hQn2 hM hKL3 ⊢
   by_cases hxl:x<(befL l k).length
   ·have hd3:decide ((x:Int)<((befL l k).length:Int))=true:=by simpa using hxl
    have hx0:(0:Int)≤(x:Int):=by omega
    obtain ⟨p,hp⟩:=zT hxl
    have p1:=z3v hp
    have hpm:=z2E.1 (List.mem_of_getElem? hp)
    have hpn:p<n:=by omega
    have hp0:(0:Int)≤(p:Int):=by omega
    have hkn2:k<n:=by omega
    have htk:(befL l k).take (x+1)=(befL l k).take x ++ [p]:=by rw [List.take_add_one,hp];rfl
    by_cases hgp : 0<g2 p
    ·have hd4:decide ((0:Int)≤dsF g2 p)=true:=by simp [dsF];omega
     repeat' (first|refine T.zh fun K hK=>?_|refine T.block ?_|(refine T.reg (by kernel_rfl) fun K' hK'=>?_;simp only [bz];(repeat' (first|(with_reducible refine WL.fin ?_;refine hK' _ ?_;clear hK' K')|((with_reducible refine WL.step fun K2 hK2=>?_);simp only [simprocAttr,implies_true,amz,tys,hd3,hx0,Int.toNat_natCast,p1,hp0,qB,hpn,z0h _ hpn,hd4];(repeat' with_reducible (first|(refine hK2 _ ?_;clear hK2 K2)|refine And.intro ?_ ?_|intro hb))))))|refine T.skip ?_|refine T.exit ?_|refine T.zf rfl ?_|refine T.ze rfl ?_|refine T.cond rfl (fun hc=>?_) (fun hc=>?_)|refine T.ret ?_|simp only [za,z8,reduceIte,Nat.reduceEqDiff]|((repeat ((fail_if_success (refine hK _ ?_));clear hK K));refine hK _ ?_;clear hK K))
     refine hKL3 _ (g2,Q2,m2,x+1) ?_ ⟨hxl,by rw [htk];exact hI2.skip hgp,hmQ2,hQ02,hQn2,hM⟩ (by simp only;omega)
     refine zk.of' rfl ?_;simp only [wks,reduceIte,Nat.reduceEqDiff,ASt.okB,AV.okB,Nat.reduceLT,implies_true,zm (show x<1152921504606846976 by omega)]
    ·have hgp0:g2 p=0:=by omega
     have hd4:decide ((0:Int)≤dsF g2 p)=false:=by simp [dsF];omega
     have hgk:=hI2.gk
     have hkt:=(hI2.top hgk).2
     have hwk:IntKind.i64.wrap (dsF g2 k+1)=((g2 k:Nat):Int):=by
      rw [show dsF g2 k+1=((g2 k:Nat):Int) by simp [dsF]]
      exact z4c (by omega) (by omega)
     have hst:=z4M (dsF g2) ((g2 k:Nat):Int) hpn
     rw [dsF_up] at hst
     have hup:=z8Z (g:=g2) (p:=p) (v:=g2 k+1) hgp0 (Nat.succ_pos _) hpn
     by_cases hpi:p=i
     ·have hd5:((p:Int)==(i:Int))=true:=by rw [hpi];simp
      have hR:=hI2.brk (by omega) (by rw [← hpi];exact hpm.2) (show i ≠ j by omega)
      rw [← hpi] at hR
      repeat' (first|refine T.zh fun K hK=>?_|refine T.block ?_|(refine T.reg (by kernel_rfl) fun K' hK'=>?_;simp only [bz];(repeat' (first|(with_reducible refine WL.fin ?_;refine hK' _ ?_;clear hK' K')|((with_reducible refine WL.step fun K2 hK2=>?_);simp only [simprocAttr,implies_true,amz,tys,hd3,hx0,Int.toNat_natCast,p1,hp0,hki,qB,hpn,hkn2,z0h _ hpn,z0h _ hkn2,hd4,hwk,hst,hd5];(repeat' with_reducible (first|(refine hK2 _ ?_;clear hK2 K2)|refine And.intro ?_ ?_|intro hb))))))|refine T.skip ?_|refine T.exit ?_|refine T.zf rfl ?_|refine T.ze rfl ?_|refine T.cond rfl (fun hc=>?_) (fun hc=>?_)|refine T.ret ?_|simp only [za,z8,reduceIte,Nat.reduceEqDiff]|((repeat ((fail_if_success (refine hK _ ?_));clear hK K));refine hK _ ?_;clear hK K))
      all_goals (refine NoGt.ret ?_)
      all_goals (refine FinM.ret (s':=⟨[(6,.p (.seq 1 (rowF n (dsF (upG g2 p (g2 k+1))))))],[],69,0⟩) (r := .p (.seq 1 (rowF n (dsF (upG g2 p (g2 k+1)))))) (.inr rfl) Try.results19 ((zk.frz _ 0).trans (by simp only [ASt.frz,List.filter_cons,List.filter_nil,bne_self_eq_false,Nat.reduceBneDiff,Bool.false_eq_true,simprocAttr,implies_true,amz];refine zk.of' rfl ?_;simp only [wks,reduceIte,Nat.reduceEqDiff,ASt.okB,AV.okB,Nat.reduceLT,implies_true,])) rfl ?_ ?_)
      ·simp only [zu,zo,zn,simprocAttr,implies_true,amz,tys]
      ·exact ⟨rfl,_,by rw [← hpi];exact hR,by rw [hn]⟩
     ·have hd5:((p:Int)==(i:Int))=false:=by rw [beq_eq_false_iff_ne];omega
      have hQl2:=qJ Q2
      have hb3:Q2.length+1≤maxLen:=by unfold maxLen;omega
      have hb4:(Q2.length+1)*8≤140737488355328:=by omega
      have hsn:=z0S Q2 p
      have hsn2:List.drop m2 (qw Q2) ++ [[PV.val (.int .i64 (p:Int))]]=qw (Q2.drop m2 ++ [p]):=by rw [rowI_drop];exact z0S _ _
      have hI3:=hI2.set hpm.1 hpm.2 hgp0 hpi
      rw [← htk] at hI3
      repeat' (first|refine T.zh fun K hK=>?_|refine T.block ?_|(refine T.reg (by kernel_rfl) fun K' hK'=>?_;simp only [bz];(repeat' (first|(with_reducible refine WL.fin ?_;refine hK' _ ?_;clear hK' K')|((with_reducible refine WL.step fun K2 hK2=>?_);simp only [simprocAttr,implies_true,amz,tys,hd3,hx0,Int.toNat_natCast,p1,hp0,hki,qB,hpn,hkn2,z0h _ hpn,z0h _ hkn2,hd4,hwk,hst,hd5,hm1,hQl2,hmQ2,hQ02,hb3,hb4,List.length_cons,List.length_nil,Nat.zero_add,hsn,hsn2];(repeat' with_reducible (first|(refine hK2 _ ?_;clear hK2 K2)|refine And.intro ?_ ?_|intro hb))))))|refine T.skip ?_|refine T.exit ?_|refine T.zf rfl ?_|refine T.ze rfl ?_|refine T.cond rfl (fun hc=>?_) (fun hc=>?_)|refine T.ret ?_|simp only [za,z8,reduceIte,Nat.reduceEqDiff]|((repeat ((fail_if_success (refine hK _ ?_));clear hK K));refine hK _ ?_;clear hK K))
      ·refine hKL3 _ (upG g2 p (g2 k+1),Q2 ++ [p],m2,x+1) ?_ ⟨hxl,?_,?_,?_,?_,?_⟩ (by simp only;omega)
       ·refine zk.of' rfl ?_;simp only [wks,reduceIte,Nat.reduceEqDiff,ASt.okB,AV.okB,Nat.reduceLT,implies_true,zm (show x<1152921504606846976 by omega)]
       ·simp only
        rw [List.drop_append_of_le_length hmQ2];exact hI3
       ·simp only [List.length_append];omega
       ·simp
       ·simp only [List.length_append,List.length_cons,List.length_nil];omega
       ·simp only [List.length_append,List.length_cons,List.length_nil];omega
      ·refine hKL3 _ (upG g2 p (g2 k+1),Q2.drop m2 ++ [p],0,x+1) ?_ ⟨hxl,?_,Nat.zero_le _,?_,?_,?_⟩ (by simp only;omega)
       ·exact (zk.ren _ 2 1).trans (by refine zk.of' rfl ?_;simp only [wks,reduceIte,Nat.reduceEqDiff,ASt.okB,AV.okB,Nat.reduceLT,implies_true,ASt.ren,AV.qK,AV.z0p,AV.z06,AV.z0C,AV.z1I,AV.z0F,AV.z0a,AV.z08,AV.z1p,AV.z0E,AV.z0G,AO.z0O,AO.z0c,AO.z10,AO.z0W,List.map_cons,List.map_nil,List.filter_cons,List.filter_nil,zx,qf,Nat.reduceBneDiff,bne_self_eq_false,Bool.and_false,Bool.false_and,Bool.false_eq_true,ne_eq,not_false_eq_true,not_true_eq_false,and_self,and_false,AVle.ownSuf,zm (show x<1152921504606846976 by omega)])
       ·simp only [List.drop_zero];exact hI3
       ·simp
       ·simp only [List.length_append,List.length_drop,List.length_cons,List.length_nil];omega
       ·simp only [List.length_append,List.length_drop,List.length_cons,List.length_nil];omega
   ·have hd3:decide ((x:Int)<((befL l k).length:Int))=false:=by simpa using hxl
    have hxe:x=(befL l k).length:=by omega
    repeat' (first|refine T.zh fun K hK=>?_|refine T.block ?_|(refine T.reg (by kernel_rfl) fun K' hK'=>?_;simp only [bz];(repeat' (first|(with_reducible refine WL.fin ?_;refine hK' _ ?_;clear hK' K')|((with_reducible refine WL.step fun K2 hK2=>?_);simp only [simprocAttr,implies_true,amz,tys,hd3];(repeat' with_reducible (first|(refine hK2 _ ?_;clear hK2 K2)|refine And.intro ?_ ?_|intro hb))))))|refine T.skip ?_|refine T.exit ?_|refine T.zf rfl ?_|refine T.ze rfl ?_|refine T.cond rfl (fun hc=>?_) (fun hc=>?_)|refine T.ret ?_|simp only [za,z8,reduceIte,Nat.reduceEqDiff]|((repeat ((fail_if_success (refine hK _ ?_));clear hK K));refine hK _ ?_;clear hK K))
    refine hKL2 _ (g2,Q2,m2) ?_ ⟨hI2.done fun p h1 h2=>?_,hmQ2,hQ02,hQn2⟩ (by simp only;omega)
    ·refine zk.of' rfl ?_;simp only [wks,reduceIte,Nat.reduceEqDiff,ASt.okB,AV.okB,Nat.reduceLT,implies_true,]
    ·rw [hxe,List.take_length];exact z2E.2 ⟨h1,h2⟩
theorem z0u {α:Type} (c k:Nat) : ∀ (l:List (Nat × α)),(l.filter fun p=>p.1 != c).lookup k=if k=c then none else l.lookup k
 | []=>by simp
 | (a,b) :: r=>by
  rw [List.filter_cons]
  by_cases h:a=c
  ·subst h
   rw [if_neg (by simp),z0u a k r]
   by_cases e:k=a
   ·rw [if_pos e,if_pos e]
   ·rw [if_neg e,if_neg e,zb e]
  ·rw [if_pos (by simpa using h)]
   by_cases e:k=a
   ·subst e;rw [zi,if_neg h,zi]
   ·rw [zb e,z0u c k r,zb e]
theorem lkH {B n:Nat} (hB:B=1000010) (F G:Nat→List Nat) (hn:n≤1000000) (q:Nat):List.lookup q (mat 3 1 10 (matI n F)++mat 3 1 B (matI n G))=if 10≤q∧q<n+10 then some (.row 3 1 (qw (F (q-10)))) else if B≤q∧q<n+B then some (.row 3 1 (qw (G (q-B)))) else none:=by
 rw [qP,z0D,z0D]
 by_cases h1 : 10≤q∧q<n+10
 ·rw [if_pos h1,if_pos h1.1,z3s F (by omega)];rfl
 ·rw [if_neg h1]
  have e1:(if 10≤q then ((matI n F)[q-10]?).map (AO.row 3 1) else none)=none:=by
   split
   ·rw [List.getElem?_eq_none (by rw [z0U];omega)];rfl
   ·rfl
  rw [e1,Option.none_or]
  by_cases h2:B≤q∧q<n+B
  ·rw [if_pos h2,if_pos h2.1,z3s G (by omega)];rfl
  ·rw [if_neg h2]
   split
   ·rw [List.getElem?_eq_none (by rw [z0U];omega)];rfl
   ·rfl
theorem zk.renTo (s:ASt) (t t' : Nat) (o:AO) (h:s.hp.lookup t=some o) (ht' : t' < s.N) (hne:t ≠ t') (fr' : List (Nat × AV)) (hp' : Hp) (m:Nat) (hfr : ∀ p ∈ fr',AVle ((s.get p.1).ren t t') p.2) (hok:(fr'.all fun p=>p.2.okB m)=true)
  (he : ∀ q,hp'.lookup q=if q=t∨q=t' then (if q=t' then some (o.ren t t') else none) else (s.hp.lookup q).map (AO.ren t t')) (hhp : ∀ q o,hp'.lookup q=some o→q<m∧o.okB m=true):zk s ⟨fr',hp',s.n,m⟩:=by
 refine (zk.ren s t t').trans ?_
 have hr:s.ren t t' = { s with fr:=s.fr.map fun p=>(p.1,p.2.ren t t'),hp:=(t',o.ren t t') :: (s.hp.filter fun p=>p.1 != t&&p.1 != t').map fun p=>(p.1,p.2.ren t t') }:=by
  unfold ASt.ren
  rw [h]
  simp only
  rw [if_pos ⟨ht',hne⟩]
 rw [hr]
 refine zk.frm _ fr' hp' m (fun q=>?_) (fun p hp=>?_) hok hhp
 ·rw [he q]
  by_cases e:q=t'
  ·subst e;rw [if_pos (.inr rfl),if_pos rfl,zi]
  ·rw [zb e,zN,z2h]
   by_cases e2:q=t
   ·rw [if_pos (.inl e2),if_neg e,if_pos (.inl e2)];rfl
   ·rw [if_neg (by simp [e,e2]),if_neg (by simp [e,e2])]
 ·have:ASt.get { s with fr:=s.fr.map fun p=>(p.1,p.2.ren t t'),hp:=(t',o.ren t t') :: (s.hp.filter fun p=>p.1 != t&&p.1 != t').map fun p=>(p.1,p.2.ren t t') } p.1=(s.get p.1).ren t t':=by
   unfold ASt.get
   simp only [zN]
   cases s.fr.lookup p.1 <;> simp [AV.ren]
  rw [this]
  exact hfr p hp
theorem z6l : ∀ (r:List Ed) (p y:Ed),cmpF p (r ++ [y])=cmpF p r++if eqE y ((p :: r).getLast (by simp)) then [] else [y]
 | [],p,y=>by
  by_cases h:eqE y p=true <;> simp [cmpF,h]
 | z :: r,p,y=>by
  rw [List.cons_append,cmpF,cmpF,List.getLast_cons (by simp)]
  split
  ·rw [z6l r z y]
  ·rw [z6l r z y];rfl
theorem z6X {S:List Ed} {m:Nat} {y z:Ed} (hm : 0<m) (hy:S[m]? = some y) (hz:S[m-1]? = some z):z3S (S.take (m+1))=z3S (S.take m)++if eqE y z then [] else [y]:=by
 cases S with
 | nil=>simp at hy
 | cons p r =>
  obtain ⟨q,rfl⟩ : ∃ q,m=q+1:=⟨m-1,by omega⟩
  rw [List.take_succ_cons,List.take_succ_cons,z3S,z3S,List.cons_append]
  have hy' : r[q]? = some y:=by simpa using hy
  have hql:=(List.getElem?_eq_some_iff.1 hy').1
  rw [List.take_add_one,hy',Option.toList_some,z6l]
  congr 3
  have:(p :: r.take q).getLast (by simp)=z:=by
   have h1:(p :: r.take q)[q]? = some z:=by
    simp only [Nat.add_sub_cancel] at hz
    rw [← List.take_succ_cons,List.getElem?_take,if_pos (by omega)]
    exact hz
   rw [List.getLast_eq_getElem]
   have hlen:(p :: r.take q).length=q+1:=by simp;omega
   have h2:=(List.getElem?_eq_some_iff.1 h1).2
   simp only [hlen,Nat.add_sub_cancel]
   exact h2
  rw [this]
theorem eqP_ok (x y:Ed):zq Try.prog 45 [.agg ((edC x).map .p),.agg ((edC y).map .p)] (.bool (eqE x y)):=by
 simp only [edC,List.map_cons,List.map_nil]
 refine zq.of Try.func45 rfl 17 rfl (by decide) (by simp [AV.okB]) ?_
 repeat' (first|refine T.zh fun K hK=>?_|refine T.block ?_|(refine T.reg (by kernel_rfl) fun K' hK'=>?_;simp only [bz];(repeat' (first|(with_reducible refine WL.fin ?_;refine hK' _ ?_;clear hK' K')|((with_reducible refine WL.step fun K2 hK2=>?_);simp only [simprocAttr,implies_true,amz,tys];(repeat' with_reducible (first|(refine hK2 _ ?_;clear hK2 K2)|refine And.intro ?_ ?_|intro hb))))))|refine T.skip ?_|refine T.exit ?_|refine T.zf rfl ?_|refine T.ze rfl ?_|refine T.cond rfl (fun hc=>?_) (fun hc=>?_)|refine T.ret ?_|simp only [za,z8,reduceIte,Nat.reduceEqDiff]|((repeat ((fail_if_success (refine hK _ ?_));clear hK K));refine hK _ ?_;clear hK K))
 all_goals (refine zy.ret (.inr rfl) Try.results45 ?_;simp only [zu,zo,zn,simprocAttr,implies_true,amz,tys,];first|(simp [eqE, *];done)|(simp_all [eqE];done)|(simp_all [eqE];omega))
def cmpW (x y:Ed):Int:=if x.t ≠ y.t then IntKind.i64.wrap (x.t-y.t) else if x.f ≠ y.f then IntKind.i64.wrap (x.f-y.f) else IntKind.i64.wrap (x.k-y.k)
theorem cmpP_ok (x y:Ed):zq Try.prog 43 [.agg ((edC x).map .p),.agg ((edC y).map .p)] (.int (cmpW x y)):=by
 simp only [edC,List.map_cons,List.map_nil]
 refine zq.of Try.func43 rfl 30 rfl (by decide) (by simp [AV.okB]) ?_
 repeat' (first|refine T.zh fun K hK=>?_|refine T.block ?_|(refine T.reg (by kernel_rfl) fun K' hK'=>?_;simp only [bz];(repeat' (first|(with_reducible refine WL.fin ?_;refine hK' _ ?_;clear hK' K')|((with_reducible refine WL.step fun K2 hK2=>?_);simp only [simprocAttr,implies_true,amz,tys];(repeat' with_reducible (first|(refine hK2 _ ?_;clear hK2 K2)|refine And.intro ?_ ?_|intro hb))))))|refine T.skip ?_|refine T.exit ?_|refine T.zf rfl ?_|refine T.ze rfl ?_|refine T.cond rfl (fun hc=>?_) (fun hc=>?_)|refine T.ret ?_|simp only [za,z8,reduceIte,Nat.reduceEqDiff]|((repeat ((fail_if_success (refine hK _ ?_));clear hK K));refine hK _ ?_;clear hK K))
 all_goals (refine zy.ret (.inr rfl) Try.results43 ?_;simp only [zu,zo,zn,simprocAttr,implies_true,amz,tys,];first|(simp [cmpW, *];done)|(simp_all [cmpW];done)|(simp_all [cmpW];omega))
def CmQ (S:List Ed) (hp' : Hp) (r:AV):Prop := ∃ R',hp' = [(0,.row 60 3 R')]∧((r = .own 0∧R' = rowE (z3S S)) ∨ ∃ m,r = .pre 0 m∧m≤R'.length ∧ 0<R'.length∧R'.take m=rowE (z3S S))
structure C2 where
 k:Nat
 i:Nat
 R:List (List PV)
theorem z5A {S:List Ed} {k:Nat} {x:Ed} (h:S[k]? = some x):(rowE S)[k]? = some [PV.val (.int .i64 x.f),.val (.int .i64 x.t),.val (.int .i64 x.k)]:=rowE_at h
theorem zaw (S:List Ed) (hS:S.length≤100000000000):MemC Try.prog 44 1 [(0,.row 60 3 (rowE S))] [.own 0,.fn (.func 45) []] (CmQ S):=by
 have hRl:=z7j S
 by_cases h2:S.length<2
 ·have hd:decide ((S.length:Int)<2)=true:=by simp;omega
  have hc:z3S S=S:=by
   cases S with
   | nil=>rfl
   | cons p r=>cases r with
    | nil=>rfl
    | cons q r=>simp at h2;omega
  refine MemC.of Try.func44 rfl 66 rfl (by decide) ?_;simp only [z0t,frOf]
  repeat' (first|refine T.zh fun K hK=>?_|refine T.block ?_|(refine T.reg (by kernel_rfl) fun K' hK'=>?_;simp only [bz];(repeat' (first|(with_reducible refine WL.fin ?_;refine hK' _ ?_;clear hK' K')|((with_reducible refine WL.step fun K2 hK2=>?_);simp only [simprocAttr,implies_true,amz,tys,hRl,hd];(repeat' with_reducible (first|(refine hK2 _ ?_;clear hK2 K2)|refine And.intro ?_ ?_|intro hb))))))|refine T.skip ?_|refine T.exit ?_|refine T.zf rfl ?_|refine T.ze rfl ?_|refine T.cond rfl (fun hc=>?_) (fun hc=>?_)|refine T.ret ?_|simp only [za,z8,reduceIte,Nat.reduceEqDiff]|((repeat ((fail_if_success (refine hK _ ?_));clear hK K));refine hK _ ?_;clear hK K))
  refine FinM.ret (s':=⟨[(4,.own 0)],[(0,.row 60 3 (rowE S))],66,1⟩) (r := .own 0) (.inr rfl) Try.results44 (by refine zk.of' rfl ?_;simp only [wks,reduceIte,Nat.reduceEqDiff,ASt.okB,AV.okB,Nat.reduceLT,implies_true,]) rfl ?_ ?_;(focus (simp only [zu,zo,zn,simprocAttr,implies_true,amz,tys,];done))
  exact ⟨_,rfl,.inl ⟨rfl,by rw [hc]⟩⟩
 ·have hd:decide ((S.length:Int)<2)=false:=by simp;omega
  refine MemC.of Try.func44 rfl 66 rfl (by decide) ?_;simp only [z0t,frOf]
  repeat' (first|refine T.zh fun K hK=>?_|refine T.block ?_|(refine T.reg (by kernel_rfl) fun K' hK'=>?_;simp only [bz];(repeat' (first|(with_reducible refine WL.fin ?_;refine hK' _ ?_;clear hK' K')|((with_reducible refine WL.step fun K2 hK2=>?_);simp only [simprocAttr,implies_true,amz,tys,hRl,hd];(repeat' with_reducible (first|(refine hK2 _ ?_;clear hK2 K2)|refine And.intro ?_ ?_|intro hb))))))|refine T.skip ?_|refine T.exit ?_|refine T.zf rfl ?_|refine T.ze rfl ?_|refine T.cond rfl (fun hc=>?_) (fun hc=>?_)|refine T.ret ?_|simp only [za,z8,reduceIte,Nat.reduceEqDiff]|((repeat ((fail_if_success (refine hK _ ?_));clear hK K));refine hK _ ?_;clear hK K))
  refine T.qc (fun i:Nat=>⟨[(0,.own 0),(1,.fn (.func 45) []),(5,.int i)],[(0,.row 60 3 (rowE S))],66,1⟩) (fun i => 1≤i∧i≤S.length∧z3S (S.take i)=S.take i) (fun i=>S.length-i) 1 ⟨Nat.le_refl _,by omega,?_⟩ (by refine zk.of' rfl ?_;simp only [wks,reduceIte,Nat.reduceEqDiff,ASt.okB,AV.okB,Nat.reduceLT,implies_true,Int.natCast_one]) ?_
  ·cases S with
   | nil=>rfl
   | cons p r=>rfl
  rintro i ⟨h1,hi,hci⟩ KL hKL
  by_cases hlt:i<S.length
  ·have hdi:decide ((i:Int)<(S.length:Int))=true:=by simpa using hlt
   obtain ⟨y,hy⟩:=zT hlt
   obtain ⟨z,hz⟩:=zT (show i-1<S.length by omega)
   have hw:IntKind.i64.wrap ((i:Int)-1)=((i-1:Nat):Int):=by rw [IntKind.wrap_i64];omega
   have m1:=z5A hy
   have m2:=z5A hz
   have he:=eqP_ok y z
   simp only [edC,List.map_cons,List.map_nil] at he
   have hnx:=z6X (by omega) hy hz
   have hi1:i-1<S.length:=by omega
   cases heq:eqE y z with
   | false =>
    rw [heq] at he hnx
    repeat' (first|refine T.zh fun K hK=>?_|refine T.block ?_|(refine T.reg (by kernel_rfl) fun K' hK'=>?_;simp only [bz];(repeat' (first|(with_reducible refine WL.fin ?_;refine hK' _ ?_;clear hK' K')|((with_reducible refine WL.step fun K2 hK2=>?_);simp only [simprocAttr,implies_true,amz,tys,hRl,hdi];(repeat' with_reducible (first|(refine hK2 _ ?_;clear hK2 K2)|refine And.intro ?_ ?_|intro hb))))))|refine T.skip ?_|refine T.exit ?_|refine T.zf rfl ?_|refine T.ze rfl ?_|refine T.cond rfl (fun hc=>?_) (fun hc=>?_)|refine T.ret ?_|simp only [za,z8,reduceIte,Nat.reduceEqDiff]|((repeat ((fail_if_success (refine hK _ ?_));clear hK K));refine hK _ ?_;clear hK K))
    refine T.drw 10 (by kernel_rfl) (by kernel_rfl) fun K' hK'=>?_;simp only [List.map_cons,List.map_nil];(repeat' (first|(with_reducible refine WL.fin ?_;refine hK' _ ?_;clear hK' K')|(with_reducible refine WD.fin ?_)|((with_reducible first|refine WL.step fun K2 hK2=>?_|refine WD.step fun K2 hK2=>?_);simp only [simprocAttr,implies_true,amz,tys,hw,hRl,hlt,hi1,m1,m2];(repeat' (first|with_reducible (first|(refine hK2 _ ?_;clear hK2 K2)|refine And.intro ?_ ?_|intro hb)|(refine Or.inl ⟨_,⟨(Ent.of Try.func45 (by kernel_rfl) rfl),he,by simp [AV.okB,AV.qa]⟩,?_⟩))))));all_goals ((try simp only [za,z8,reduceIte,Nat.reduceEqDiff]);(try ((repeat ((fail_if_success (refine hK _ ?_));clear hK K));refine hK _ ?_;clear hK K)))
    all_goals repeat' (first|refine T.zh fun K hK=>?_|refine T.block ?_|(refine T.reg (by kernel_rfl) fun K' hK'=>?_;simp only [bz];(repeat' (first|(with_reducible refine WL.fin ?_;refine hK' _ ?_;clear hK' K')|((with_reducible refine WL.step fun K2 hK2=>?_);simp only [simprocAttr,implies_true,amz,tys];(repeat' with_reducible (first|(refine hK2 _ ?_;clear hK2 K2)|refine And.intro ?_ ?_|intro hb))))))|refine T.skip ?_|refine T.exit ?_|refine T.zf rfl ?_|refine T.ze rfl ?_|refine T.cond rfl (fun hc=>?_) (fun hc=>?_)|refine T.ret ?_|simp only [za,z8,reduceIte,Nat.reduceEqDiff]|((repeat ((fail_if_success (refine hK _ ?_));clear hK K));refine hK _ ?_;clear hK K))
    refine hKL _ (i+1) (by refine zk.of' rfl ?_;simp only [wks,reduceIte,Nat.reduceEqDiff,ASt.okB,AV.okB,Nat.reduceLT,implies_true,zm (show i<1152921504606846976 by omega),AV.qo]) ⟨by omega,by omega,?_⟩ (by omega)
    rw [hnx,hci,List.take_add_one,hy];rfl
   | true =>
    rw [heq] at he hnx
    repeat' (first|refine T.zh fun K hK=>?_|refine T.block ?_|(refine T.reg (by kernel_rfl) fun K' hK'=>?_;simp only [bz];(repeat' (first|(with_reducible refine WL.fin ?_;refine hK' _ ?_;clear hK' K')|((with_reducible refine WL.step fun K2 hK2=>?_);simp only [simprocAttr,implies_true,amz,tys,hRl,hdi];(repeat' with_reducible (first|(refine hK2 _ ?_;clear hK2 K2)|refine And.intro ?_ ?_|intro hb))))))|refine T.skip ?_|refine T.exit ?_|refine T.zf rfl ?_|refine T.ze rfl ?_|refine T.cond rfl (fun hc=>?_) (fun hc=>?_)|refine T.ret ?_|simp only [za,z8,reduceIte,Nat.reduceEqDiff]|((repeat ((fail_if_success (refine hK _ ?_));clear hK K));refine hK _ ?_;clear hK K))
    refine T.drw 10 (by kernel_rfl) (by kernel_rfl) fun K' hK'=>?_;simp only [List.map_cons,List.map_nil];(repeat' (first|(with_reducible refine WL.fin ?_;refine hK' _ ?_;clear hK' K')|(with_reducible refine WD.fin ?_)|((with_reducible first|refine WL.step fun K2 hK2=>?_|refine WD.step fun K2 hK2=>?_);simp only [simprocAttr,implies_true,amz,tys,hw,hRl,hlt,hi1,m1,m2];(repeat' (first|with_reducible (first|(refine hK2 _ ?_;clear hK2 K2)|refine And.intro ?_ ?_|intro hb)|(refine Or.inl ⟨_,⟨(Ent.of Try.func45 (by kernel_rfl) rfl),he,by simp [AV.okB,AV.qa]⟩,?_⟩))))));all_goals ((try simp only [za,z8,reduceIte,Nat.reduceEqDiff]);(try ((repeat ((fail_if_success (refine hK _ ?_));clear hK K));refine hK _ ?_;clear hK K)))
    have hsl : ¬ ((i:Int)=0∧False):=by simp
    have hlt1:i≤S.length:=Nat.le_of_lt hlt
    have hlt0 : 0<S.length:=by omega
    all_goals repeat' (first|refine T.zh fun K hK=>?_|refine T.block ?_|(refine T.reg (by kernel_rfl) fun K' hK'=>?_;simp only [bz];(repeat' (first|(with_reducible refine WL.fin ?_;refine hK' _ ?_;clear hK' K')|((with_reducible refine WL.step fun K2 hK2=>?_);simp only [simprocAttr,implies_true,amz,tys,hRl,hlt,hlt1,hlt0,false_and];(repeat' with_reducible (first|(refine hK2 _ ?_;clear hK2 K2)|refine And.intro ?_ ?_|intro hb))))))|refine T.skip ?_|refine T.exit ?_|refine T.zf rfl ?_|refine T.ze rfl ?_|refine T.cond rfl (fun hc=>?_) (fun hc=>?_)|refine T.ret ?_|simp only [za,z8,reduceIte,Nat.reduceEqDiff]|((repeat ((fail_if_success (refine hK _ ?_));clear hK K));refine hK _ ?_;clear hK K))
    refine T.qc (fun c:C2=>⟨[(0,.own 0),(1,.fn (.func 45) []),(5,.int c.i),(6,.suf 0 3 i),(7,.int c.k)],[(0,.row 60 3 c.R)],66,1⟩) (fun c => 1≤c.k∧i+c.k≤S.length ∧ 1≤c.i∧c.i+1≤i+c.k∧c.R.length=S.length∧(∀ r ∈ c.R,r.length=3)∧c.R.take c.i=rowE (z3S (S.take (i+c.k))) ∧ ∀ q,i+c.k≤q+1→c.R[q]? = (rowE S)[q]?) (fun c=>S.length-c.k) ⟨1,i,rowE S⟩ ⟨Nat.le_refl _,by simp only [];omega,h1,by simp only [];omega,hRl,?_,?_,fun q _=>rfl⟩ (by refine zk.of' rfl ?_;simp only [wks,reduceIte,Nat.reduceEqDiff,ASt.okB,AV.okB,Nat.reduceLT,implies_true,Int.natCast_one,AV.qo]) ?_
    ·intro r hr
     obtain ⟨x,_,rfl⟩:=List.mem_map.1 hr;rfl
    ·simp only []
     rw [hnx,hci,if_pos rfl,List.append_nil,rowE,rowE,List.map_take]
    rintro ⟨k,i',R⟩ ⟨k1,k2,k3,k4,k5,k6,k7,k8⟩ KL2 hKL2
    simp only at k1 k2 k3 k4 k5 k6 k7 k8 ⊢
    by_cases hkl:i+k<S.length
    ·have hdk:decide ((k:Int)<((S.length-i:Nat):Int))=true:=by simp;omega
     obtain ⟨y2,hy2⟩:=zT hkl
     obtain ⟨z2,hz2⟩:=zT (show i+k-1<S.length by omega)
     have hwk:IntKind.i64.wrap ((k:Int)-1)=((k-1:Nat):Int):=by rw [IntKind.wrap_i64];omega
     have a1:=z5A hy2
     rw [← k8 (i+k) (by omega)] at a1
     have a2:=z5A hz2
     rw [← k8 (i+k-1) (by omega),show i+k-1=i+(k-1) by omega] at a2
     have l1:i+(k-1)<S.length:=by omega
     have hnx2:=z6X (by omega) hy2 hz2
     have he2:=eqP_ok y2 z2
     simp only [edC,List.map_cons,List.map_nil] at he2
     obtain ⟨r0,hr0⟩:=zT (show i' < R.length by omega)
     obtain ⟨ra,rb,rc,hrr⟩ : ∃ a b c,r0 = [a,b,c]:=by
      have:=k6 r0 (List.mem_of_getElem? hr0)
      match r0,this with
      | [a,b,c],_=>exact ⟨a,b,c,rfl⟩
     subst hrr
     have hil:i' < S.length:=by omega
     cases heq2:eqE y2 z2 with
     | true =>
      rw [heq2] at he2 hnx2
      repeat' (first|refine T.zh fun K hK=>?_|refine T.block ?_|(refine T.reg (by kernel_rfl) fun K' hK'=>?_;simp only [bz];(repeat' (first|(with_reducible refine WL.fin ?_;refine hK' _ ?_;clear hK' K')|((with_reducible refine WL.step fun K2 hK2=>?_);simp only [simprocAttr,implies_true,amz,tys,k5,hlt,hlt1,hlt0,hdk];(repeat' with_reducible (first|(refine hK2 _ ?_;clear hK2 K2)|refine And.intro ?_ ?_|intro hb))))))|refine T.skip ?_|refine T.exit ?_|refine T.zf rfl ?_|refine T.ze rfl ?_|refine T.cond rfl (fun hc=>?_) (fun hc=>?_)|refine T.ret ?_|simp only [za,z8,reduceIte,Nat.reduceEqDiff]|((repeat ((fail_if_success (refine hK _ ?_));clear hK K));refine hK _ ?_;clear hK K))
      refine T.drw 10 (by kernel_rfl) (by kernel_rfl) fun K' hK'=>?_;simp only [List.map_cons,List.map_nil];(repeat' (first|(with_reducible refine WL.fin ?_;refine hK' _ ?_;clear hK' K')|(with_reducible refine WD.fin ?_)|((with_reducible first|refine WL.step fun K2 hK2=>?_|refine WD.step fun K2 hK2=>?_);simp only [simprocAttr,implies_true,amz,tys,hwk,k5,hkl,l1,a1,a2];(repeat' (first|with_reducible (first|(refine hK2 _ ?_;clear hK2 K2)|refine And.intro ?_ ?_|intro hb)|(refine Or.inl ⟨_,⟨(Ent.of Try.func45 (by kernel_rfl) rfl),he2,by simp [AV.okB,AV.qa]⟩,?_⟩))))));all_goals ((try simp only [za,z8,reduceIte,Nat.reduceEqDiff]);(try ((repeat ((fail_if_success (refine hK _ ?_));clear hK K));refine hK _ ?_;clear hK K)))
      all_goals repeat' (first|refine T.zh fun K hK=>?_|refine T.block ?_|(refine T.reg (by kernel_rfl) fun K' hK'=>?_;simp only [bz];(repeat' (first|(with_reducible refine WL.fin ?_;refine hK' _ ?_;clear hK' K')|((with_reducible refine WL.step fun K2 hK2=>?_);simp only [simprocAttr,implies_true,amz,tys];(repeat' with_reducible (first|(refine hK2 _ ?_;clear hK2 K2)|refine And.intro ?_ ?_|intro hb))))))|refine T.skip ?_|refine T.exit ?_|refine T.zf rfl ?_|refine T.ze rfl ?_|refine T.cond rfl (fun hc=>?_) (fun hc=>?_)|refine T.ret ?_|simp only [za,z8,reduceIte,Nat.reduceEqDiff]|((repeat ((fail_if_success (refine hK _ ?_));clear hK K));refine hK _ ?_;clear hK K))
      refine hKL2 _ ⟨k+1,i',R⟩ (by refine zk.of' rfl ?_;simp only [wks,reduceIte,Nat.reduceEqDiff,ASt.okB,AV.okB,Nat.reduceLT,implies_true,zm (show k<1152921504606846976 by omega),AV.qo]) ⟨by simp only [];omega,by simp only [];omega,k3,by simp only [];omega,k5,k6,?_,fun q hq=>k8 q (by simp only [] at hq;omega)⟩ (by simp only [];omega)
      simp only []
      rw [k7,← Nat.add_assoc,hnx2,if_pos rfl,List.append_nil]
     | false =>
      rw [heq2] at he2 hnx2
      repeat' (first|refine T.zh fun K hK=>?_|refine T.block ?_|(refine T.reg (by kernel_rfl) fun K' hK'=>?_;simp only [bz];(repeat' (first|(with_reducible refine WL.fin ?_;refine hK' _ ?_;clear hK' K')|((with_reducible refine WL.step fun K2 hK2=>?_);simp only [simprocAttr,implies_true,amz,tys,k5,hlt,hlt1,hlt0,hdk];(repeat' with_reducible (first|(refine hK2 _ ?_;clear hK2 K2)|refine And.intro ?_ ?_|intro hb))))))|refine T.skip ?_|refine T.exit ?_|refine T.zf rfl ?_|refine T.ze rfl ?_|refine T.cond rfl (fun hc=>?_) (fun hc=>?_)|refine T.ret ?_|simp only [za,z8,reduceIte,Nat.reduceEqDiff]|((repeat ((fail_if_success (refine hK _ ?_));clear hK K));refine hK _ ?_;clear hK K))
      refine T.drw 10 (by kernel_rfl) (by kernel_rfl) fun K' hK'=>?_;simp only [List.map_cons,List.map_nil];(repeat' (first|(with_reducible refine WL.fin ?_;refine hK' _ ?_;clear hK' K')|(with_reducible refine WD.fin ?_)|((with_reducible first|refine WL.step fun K2 hK2=>?_|refine WD.step fun K2 hK2=>?_);simp only [simprocAttr,implies_true,amz,tys,hwk,k5,hkl,l1,a1,a2];(repeat' (first|with_reducible (first|(refine hK2 _ ?_;clear hK2 K2)|refine And.intro ?_ ?_|intro hb)|(refine Or.inl ⟨_,⟨(Ent.of Try.func45 (by kernel_rfl) rfl),he2,by simp [AV.okB,AV.qa]⟩,?_⟩))))));all_goals ((try simp only [za,z8,reduceIte,Nat.reduceEqDiff]);(try ((repeat ((fail_if_success (refine hK _ ?_));clear hK K));refine hK _ ?_;clear hK K)))
      all_goals repeat' (first|refine T.zh fun K hK=>?_|refine T.block ?_|(refine T.reg (by kernel_rfl) fun K' hK'=>?_;simp only [bz];(repeat' (first|(with_reducible refine WL.fin ?_;refine hK' _ ?_;clear hK' K')|((with_reducible refine WL.step fun K2 hK2=>?_);simp only [simprocAttr,implies_true,amz,tys,k5,hkl,hil,a1,hr0];(repeat' with_reducible (first|(refine hK2 _ ?_;clear hK2 K2)|refine And.intro ?_ ?_|intro hb))))))|refine T.skip ?_|refine T.exit ?_|refine T.zf rfl ?_|refine T.ze rfl ?_|refine T.cond rfl (fun hc=>?_) (fun hc=>?_)|refine T.ret ?_|simp only [za,z8,reduceIte,Nat.reduceEqDiff]|((repeat ((fail_if_success (refine hK _ ?_));clear hK K));refine hK _ ?_;clear hK K))
      refine hKL2 _ ⟨k+1,i' + 1,R.set i' [PV.val (.int .i64 y2.f),.val (.int .i64 y2.t),.val (.int .i64 y2.k)]⟩ (by refine zk.of' rfl ?_;simp only [wks,reduceIte,Nat.reduceEqDiff,ASt.okB,AV.okB,Nat.reduceLT,implies_true,zm (show k<1152921504606846976 by omega),zm (show i' < 1152921504606846976 by omega),AV.qo]) ⟨by simp only [];omega,by simp only [];omega,by simp only [];omega,by simp only [];omega,by simp only [List.length_set];exact k5,fun r hr=>?_,?_,fun q hq=>?_⟩ (by simp only [];omega)
      ·rcases List.mem_or_eq_of_mem_set hr with h|h
       ·exact k6 r h
       ·rw [h];rfl
      ·simp only []
       rw [← Nat.add_assoc,hnx2,if_neg (by simp),List.take_add_one,List.getElem?_set,if_pos rfl,if_pos (by omega),List.take_set_of_le (Nat.le_refl _),k7]
       simp [rowE,edC]
      ·simp only [] at hq ⊢
       rw [List.getElem?_set,if_neg (by omega)]
       exact k8 q (by omega)
    ·have hdk:decide ((k:Int)<((S.length-i:Nat):Int))=false:=by simp;omega
     have hie:i+k=S.length:=by omega
     rw [hie,List.take_of_length_le (Nat.le_refl _)] at k7
     have hil:i' < S.length:=by omega
     have hlc:(List.take i' R++List.replicate (S.length-i') [PV.val (.int .i64 0),.val (.int .i64 0),.val (.int .i64 0)]).length=S.length:=by simp;omega
     have hil2:((i' : Nat):Int)≤((S.length:Nat):Int):=by omega
     have hl0 : 0<S.length:=by omega
     repeat' (first|refine T.zh fun K hK=>?_|refine T.block ?_|(refine T.reg (by kernel_rfl) fun K' hK'=>?_;simp only [bz];(repeat' (first|(with_reducible refine WL.fin ?_;refine hK' _ ?_;clear hK' K')|((with_reducible refine WL.step fun K2 hK2=>?_);simp only [simprocAttr,implies_true,amz,tys,k5,hlt,hlt1,hlt0,hdk,hil,false_and,hlc,hil2,hl0];(repeat' with_reducible (first|(refine hK2 _ ?_;clear hK2 K2)|refine And.intro ?_ ?_|intro hb))))))|refine T.skip ?_|refine T.exit ?_|refine T.zf rfl ?_|refine T.ze rfl ?_|refine T.cond rfl (fun hc=>?_) (fun hc=>?_)|refine T.ret ?_|simp only [za,z8,reduceIte,Nat.reduceEqDiff]|((repeat ((fail_if_success (refine hK _ ?_));clear hK K));refine hK _ ?_;clear hK K))
     refine FinM.ret (s':=⟨[(4,.pre 0 i')],[(0,.row 60 3 (List.take i' R++List.replicate (S.length-i') [PV.val (.int .i64 0),.val (.int .i64 0),.val (.int .i64 0)]))],66,1⟩) (r := .pre 0 i') (.inr rfl) Try.results44 (by refine zk.of' rfl ?_;simp only [wks,reduceIte,Nat.reduceEqDiff,ASt.okB,AV.okB,Nat.reduceLT,implies_true,]) rfl ?_ ?_;(focus (simp only [zu,zo,zn,simprocAttr,implies_true,amz,tys,];done))
     refine ⟨_,rfl,.inr ⟨i',rfl,by rw [hlc];omega,by rw [hlc];exact hl0,?_⟩⟩
     rw [List.take_append_of_le_length (by rw [List.length_take];omega),List.take_take,Nat.min_self,k7]
  ·have hdi:decide ((i:Int)<(S.length:Int))=false:=by simpa using hlt
   have hie:i=S.length:=by omega
   subst hie
   rw [List.take_of_length_le (Nat.le_refl _)] at hci
   repeat' (first|refine T.zh fun K hK=>?_|refine T.block ?_|(refine T.reg (by kernel_rfl) fun K' hK'=>?_;simp only [bz];(repeat' (first|(with_reducible refine WL.fin ?_;refine hK' _ ?_;clear hK' K')|((with_reducible refine WL.step fun K2 hK2=>?_);simp only [simprocAttr,implies_true,amz,tys,hRl,hdi];(repeat' with_reducible (first|(refine hK2 _ ?_;clear hK2 K2)|refine And.intro ?_ ?_|intro hb))))))|refine T.skip ?_|refine T.exit ?_|refine T.zf rfl ?_|refine T.ze rfl ?_|refine T.cond rfl (fun hc=>?_) (fun hc=>?_)|refine T.ret ?_|simp only [za,z8,reduceIte,Nat.reduceEqDiff]|((repeat ((fail_if_success (refine hK _ ?_));clear hK K));refine hK _ ?_;clear hK K))
   refine FinM.ret (s':=⟨[(4,.own 0)],[(0,.row 60 3 (rowE S))],66,1⟩) (r := .own 0) (.inr rfl) Try.results44 (by refine zk.of' rfl ?_;simp only [wks,reduceIte,Nat.reduceEqDiff,ASt.okB,AV.okB,Nat.reduceLT,implies_true,]) rfl ?_ ?_;(focus (simp only [zu,zo,zn,simprocAttr,implies_true,amz,tys,];done))
   exact ⟨_,rfl,.inl ⟨rfl,by rw [hci]⟩⟩
end Go.Proofs.Ytdlgoofjechocaa
namespace Go.Proofs.Ytdlgoofjechocaa
open Go.RowKit Go.Sort Go.Shelf
def SortedL {α:Type} (cf : α → α→Int) (ks:List α):Prop:=ks.Pairwise fun x y => ¬ cf y x<0
def z6D {α:Type} (enc : α→List Value) (ks:List α):List (List PV):=ks.map fun x=>(enc x).map PV.val
theorem HRel.cong2 {L:Nat→Prop} {N:Nat} {hp hp' : Hp} {loc:Nat→Option Value} {w:World} (h:HRel L N hp loc w) (e : ∀ t,hp'.lookup t=hp.lookup t):HRel L N hp' loc w:=⟨fun t o ho=>h.at' t o (e t ▸ ho),fun t ho=>h.dead t (e t ▸ ho),h.apart,h.inL,h.notL⟩
theorem sort_memK {P:Program} {ρ:Ren} (S:SlLaysF0.n6 P ρ) (k:Nat) (aE : ∀ w,(isAgg (ρ.t 24)).run P w = .ok true w) (zE : ∀ w,(Go.sizeOf (ρ.t 24)).run P w = .ok k w) {α:Type} (enc : α→List Value) (hk : ∀ x,(enc x).length=k) (hk0 : 0<k) (h1 : ∀ x,∀ v ∈ enc x,v.oneCell' = true) (cf : α → α→Int) (hO:SWO (ltOf cf)) (g:Nat) (ks:List α) (hlen:ks.length<4611686018427387904) (eg:Ent P g)
  (hcmp : ∀ x y,zq P g [.agg ((enc x).map fun v => .p (.val v)),.agg ((enc y).map fun v => .p (.val v))] (.int (cf x y))) (N:Nat) (hp:Hp) (t e:Nat) (hlk:hp.lookup t=some (.row e k (z6D enc ks))) :
  MemC P (ρ.f 6) N hp [.own t,.fn (.func g) []] fun hp' r=>r = .tup [] ∧ ∃ ks' : List α,ks'.Perm ks∧SortedL cf ks' ∧ hp' = zG hp t (.row e k (z6D enc ks')):=fun L loc w vs hh hvs=>by
 obtain ⟨htN,u,hu,hor⟩:=hh.at' t _ hlk
 obtain ⟨v0,v1,rfl⟩ : ∃ v0 v1,vs = [v0,v1]:=by
  match vs,hvs.1 with
  | [v0,v1],_=>exact ⟨v0,v1,rfl⟩
 have a0:=hvs.2 0 _ v0 rfl rfl
 have a1:=hvs.2 1 _ v1 rfl rfl
 cases a0 with
 | own _ _ _ _ hv =>
 obtain rfl:u=v0:=(hv u hu).symm
 cases a1 with
 | fn _ _ cvs hl _ =>
 obtain rfl:cvs = #[]:=Array.eq_empty_of_size_eq_zero (by simpa using hl)
 obtain ⟨flat,hown,hrn,hfl,hone⟩:=hor
 have hlr:(z6D enc ks).length=ks.length:=by simp [z6D]
 rw [hlr] at hown
 by_cases hne:ks = []
 ·subst hne
  obtain ⟨p,c,rfl⟩ : ∃ p c,u = .slice p 0 c:=by
   rcases hown.2 with ⟨rfl,_⟩|⟨b,cap,cur,rfl,_⟩
   ·exact ⟨_,_,rfl⟩
   ·exact ⟨_,_,rfl⟩
  refine Calls.mono (AnyF.slices_SortFunc_none S p c (.func (.func g) #[] #[]) w) ?_
  rintro ee w' ⟨rfl,rfl⟩
  refine ⟨_,loc,_,_,rfl,⟨rfl,[],.refl _,List.Pairwise.nil,rfl⟩,hh.cong2 fun x=>?_,.tup [] #[] rfl (fun j x hx=>by simp at hx),Ext.refl _ _⟩
  rw [zC]
  split
  ·rename_i e;subst e;rw [hlk];rfl
  ·rfl
 have hks0 : 0<ks.length:=List.length_pos_iff.2 hne
 rcases hown.2 with ⟨_,h0⟩|⟨b,cap,cur,rfl,_,hg,hle,hmx,hcs,htk⟩
 ·omega
 have hblt:b<w.heap.size:=(Array.getElem?_eq_some_iff.1 hg).1
 haveI:Inhabited α:=⟨ks[0]⟩
 have hflen:flat.length=ks.length*k:=hown.1
 let d:Array α:=ks.toArray
 have hd:d.size=ks.length:=by simp [d]
 have hdv : ∀ i (hi:i<ks.length),d[i]! = ks[i]:=fun i hi=>by rw [getElem!_pos d i (by rw [hd];exact hi)];simp [d]
 have hflat : ∀ q,q<ks.length*k→flat[q]? = some ((flatK enc k d)[q]!):=fun q hq=>by
  rw [get_flatK _ _ _ _ (by rw [hd];exact hq)]
  have hqk:q / k<ks.length:=Nat.div_lt_of_lt_mul (by rwa [Nat.mul_comm])
  have hqm:q % k<(enc ks[q / k]).length:=by rw [hk];exact Nat.mod_lt _ hk0
  obtain ⟨v,g1,g2⟩:=hfl (q / k) ((enc ks[q / k]).map PV.val) (q % k) (.val (enc ks[q / k])[q % k]) (by simp [z6D,List.getElem?_eq_getElem hqk]) (by rw [List.getElem?_map,List.getElem?_eq_getElem hqm];rfl)
  cases g2
  rw [hdv _ hqk,getElem!_pos (enc ks[q / k]) _ hqm,← g1]
  congr 1
  have:=Nat.div_add_mod q k
  rw [Nat.mul_comm] at this
  omega
 have hbD:Dm L loc b := .inr ⟨t,_,hu,rfl⟩
 have hH:HoldsK enc k w b 0 d:=fun j hj=>by
  rw [size_flatK,hd] at hj
  rw [Nat.zero_add]
  refine ⟨z5z hown (hflat j hj),?_⟩
  simp [World.frozen?,hg]
 have kpS : ∀ m (dk:Array α) os,Kp (fun k=>k=b) w (sortWorldK enc k w b 0 m dk os):=fun m dk os=>by
  refine ⟨rfl,rfl,rfl,?_,fun k hk hne=>?_,Nat.le_add_right _ _⟩
  ·simp [sortWorldK,grow,putRowK,putRow,mapBlock,Sort.ahead]
  ·simp only [sortWorldK,grow,putRowK,putRow,mapBlock,Sort.ahead]
   rw [Array.getElem?_append_left (by simpa using hk),Array.getElem?_modify,if_neg (fun e=>hne e.symm)]
 have hagg : ∀ (W:World) (x : α),AR 0 (fun k=>k=b) z3Q W (.agg ((enc x).map fun v => .p (.val v))) (.agg (enc x).toArray):=fun W x=>by
  refine .agg _ _ (by simp) (fun j z hz=>?_) (fun j hj=>?_)
  ·simp only [List.getElem?_map,Option.map_eq_some_iff] at hz
   obtain ⟨v,hv,rfl⟩:=hz
   have hlt:=(List.getElem?_eq_some_iff.1 hv).1
   have:(enc x).toArray.getD j undef=v:=by
    rw [Array.getD_eq_getD_getElem?];simp [hv]
   rw [this]
   exact .p _ _ (.val v (h1 x v (List.mem_of_getElem? hv)))
  ·have hlt:j<(enc x).length:=by simpa using hj
   have:(enc x).toArray.getD j undef=(enc x)[j]:=by
    rw [Array.getD_eq_getD_getElem?];simp [hlt]
   rw [this]
   exact h1 x _ (List.getElem_mem hlt)
 have hcl:CmpLays P g #[] enc k cf b 0 d.size w:=fun m os dk hdk x y=>by
  have kw:=kpS m dk os
  have hc:=hcmp x y (fun k=>k=b) (sortWorldK enc k w b 0 m dk os) [.agg (enc x).toArray,.agg (enc y).toArray] (fun k e=>by rw [e];exact Nat.lt_of_lt_of_le hblt kw.size) ⟨rfl,fun j z v hz hv=>by
   match j,hz,hv with
   | 0,hz,hv=>cases hz;cases hv;exact hagg _ x
   | 1,hz,hv=>cases hz;cases hv;exact hagg _ y⟩
  refine Calls.mono hc fun ee w' ⟨v,q1,q2,q3⟩=>?_
  subst q1
  obtain ⟨p,hp⟩:=z4j q2
  refine ⟨by rw [q3.val],p.d,p.os,hp⟩
 have hS:=AnyQ.slices_SortFunc S k aE zE enc hk h1 cf hO g #[] b 0 cap d w eg hcl hH hblt (by rw [hd];exact hlen)
 rw [show #[Value.slice (some ⟨b,0,none⟩) d.size cap,.func (.func g) #[] #[]] = #[.slice (some ⟨b,0,none⟩) ks.length cap,.func (.func g) #[] #[]] by rw [hd]] at hS
 refine Calls.mono hS ?_
 rintro ee w' ⟨rfl,d',m,os,hperm,hsort,rfl⟩
 have hd' : d'.size=ks.length:=hperm.1.trans hd
 have kw:=kpS m d' os
 have hPd:d'.toList.Perm ks:=by
  have h:=hperm.2.2
  rw [show d'.extract 0 d.size=d' by rw [← hperm.1];simp,show d.extract 0 d.size=d by simp] at h
  simpa [d] using h
 have hrun:(sortWorldK enc k w b 0 m d' os).heap[b]? = some (.cells (putCells id 0 (flatK enc k d') cur) e (0,0)):=by
  simp only [sortWorldK,grow,putRowK,putRow,mapBlock,Sort.ahead]
  rw [Array.getElem?_append_left (by simpa using hblt),Array.getElem?_modify,if_pos rfl,hg]
  rfl
 have hcap:ks.length*k≤cap*k:=Nat.mul_le_mul_right k hle
 have hput : ∀ q,q<ks.length*k→(putCells id 0 (flatK enc k d') cur)[q]? = some ((flatK enc k d')[q]!):=fun q hq=>by
  have hc:q<cur.size:=by omega
  have hkd:q<(flatK enc k d').size:=by rw [size_flatK,hd'];exact hq
  simp only [putCells,Array.getElem?_mapIdx,Array.getElem?_eq_getElem hc,Option.map_some,Nat.zero_le,Nat.zero_add,true_and,if_pos hkd,Nat.sub_zero,id]
 have hfl2 : ∀ q,q<ks.length*k→(flatK enc k d').toList[q]? = some ((flatK enc k d')[q]!):=fun q hq=>by
  have hkd:q<(flatK enc k d').size:=by rw [size_flatK,hd'];exact hq
  rw [Array.getElem?_toList,Array.getElem?_eq_getElem hkd,getElem!_pos (flatK enc k d') _ hkd]
 have hown' : (sortWorldK enc k w b 0 m d' os).ownsRow 0 e k (.slice (some ⟨b,0,none⟩) ks.length cap) ks.length (flatK enc k d').toList:=by
  refine ⟨by simp [hd'],.inr ⟨b,cap,_,rfl,Nat.zero_le _,hrun,hle,hmx,by simp only [putCells,Array.size_mapIdx];exact hcs,?_⟩⟩
  apply List.ext_getElem?
  intro q
  rw [List.getElem?_take]
  split
  ·rename_i hq
   rw [Array.getElem?_toList,hput q hq,hfl2 q hq]
  ·rw [List.getElem?_eq_none];simp [hd'];omega
 have hor' : OR N (Dm L loc) loc (sortWorldK enc k w b 0 m d' os) (.slice (some ⟨b,0,none⟩) ks.length cap) (.row e k (z6D enc d'.toList)):=by
  refine ⟨(flatK enc k d').toList,by simpa [z6D,hd'] using hown',fun r hr=>?_,fun q r j x hq hx=>?_,fun v hv=>?_⟩
  ·obtain ⟨y,_,rfl⟩:=List.mem_map.1 hr;rw [List.length_map,hk]
  ·simp only [z6D,List.getElem?_map,Option.map_eq_some_iff] at hq
   obtain ⟨y,hy,rfl⟩:=hq
   simp only [List.getElem?_map,Option.map_eq_some_iff] at hx
   obtain ⟨v,hv,rfl⟩:=hx
   have hql:q<ks.length:=by have:=(List.getElem?_eq_some_iff.1 hy).1;simp at this;omega
   have hjl:=(List.getElem?_eq_some_iff.1 hv).1
   rw [hk] at hjl
   have hlt:q*k+j<ks.length*k:=by
    have:(q+1)*k≤ks.length*k:=Nat.mul_le_mul_right _ hql
    rw [Nat.add_mul] at this
    omega
   refine ⟨v,?_,.val v (h1 y v (List.mem_of_getElem? hv))⟩
   rw [hfl2 _ hlt,get_flatK _ _ _ _ (by rw [hd'];exact hlt)]
   have e1:(q*k+j) / k=q:=by rw [Nat.mul_comm,Nat.mul_add_div (by omega),Nat.div_eq_of_lt hjl];rfl
   have e2:(q*k+j) % k=j:=by rw [Nat.mul_comm,Nat.mul_add_mod,Nat.mod_eq_of_lt hjl]
   have hyd:d'[q]! = y:=by
    rw [getElem!_pos d' q (by rw [hd'];exact hql)]
    have:=(List.getElem?_eq_some_iff.1 hy).2
    simpa using this
   rw [e1,e2,hyd]
   have:=(List.getElem?_eq_some_iff.1 hv)
   obtain ⟨hl2,hl3⟩:=this
   rw [getElem!_pos (enc y) _ hl2,hl3]
  ·obtain ⟨q,hq,rfl⟩:=List.mem_iff_getElem.1 hv
   have hq' : q<ks.length*k:=by simpa [hd'] using hq
   have hz:=hfl2 q hq'
   rw [List.getElem?_eq_getElem hq] at hz
   have hz':=Option.some.inj hz
   rw [hz',get_flatK _ _ _ _ (by rw [hd'];exact hq')]
   have hqm:q % k<(enc d'[q / k]!).length:=by rw [hk];exact Nat.mod_lt _ hk0
   rw [getElem!_pos (enc d'[q / k]!) _ hqm]
   exact h1 _ _ (List.getElem_mem hqm)
 refine ⟨_,loc,_,_,rfl,⟨rfl,d'.toList,hPd,?_,rfl⟩,hh.turn hlk hu rfl kw hor',.tup [] #[] rfl (fun j x hx=>by simp at hx),.turn hu rfl kw⟩
 refine List.pairwise_iff_getElem.2 fun i j hi hj hij=>?_
 have h:=hsort i j (Nat.zero_le _) hij (by simp at hj;omega)
 rw [getElem!_pos d' i (by simpa using hi),getElem!_pos d' j (by simpa using hj)] at h
 simpa [ltOf] using h
end Go.Proofs.Ytdlgoofjechocaa
namespace Go.Proofs
open Go.Shelf Go.RowKit Go.Lib Go.Sort
def Ytdlgoofjechocaa.sortE_ren:Go.Shelf.Ren:=⟨fun | 6 => 42 | 15 => 55 | 14 => 54 | 28 => 73 | 29 => 74 | 20 => 65 | 21 => 66 | 22 => 67 | 23 => 68 | 24 => 69 | 25 => 70 | 26 => 71 | 27 => 72 | 46 => 78 | 47 => 79 | 48 => 80 | 49 => 81 | 50 => 82 | 57 => 88|n=>n,fun | 22 => 56 | 24 => 60 | 25 => 76 | 3 => 3 | 39 => 89 | 0 => 0 | 53 => 116 | 55 => 118 | 4 => 4 | 46 => 110 | 45 => 109 | 50 => 49 | 5 => 5 | 9 => 9 | 66 => 121 | 70 => 125 | 76 => 134 | 77 => 135|n=>n,fun|n=>n⟩
theorem Ytdlgoofjechocaa.sortE:Go.Proofs.SlLaysF0.n6 Try.prog Ytdlgoofjechocaa.sortE_ren := {
 mixed:=by kernel_rfl
 f6:=⟨Try.f42.name,by decide,Try.func42.trans (congrArg some (by kernel_rfl))⟩
 f14:=⟨Try.f54.name,by decide,Try.func54.trans (congrArg some (by kernel_rfl))⟩
 f15:=Try.func55.trans (congrArg some (by kernel_rfl))
 f20:=⟨Try.f65.name,by decide,Try.func65.trans (congrArg some (by kernel_rfl))⟩
 f21:=⟨Try.f66.name,by decide,Try.func66.trans (congrArg some (by kernel_rfl))⟩
 f22:=⟨Try.f67.name,by decide,Try.func67.trans (congrArg some (by kernel_rfl))⟩
 f23:=⟨Try.f68.name,by decide,Try.func68.trans (congrArg some (by kernel_rfl))⟩
 f24:=⟨Try.f69.name,by decide,Try.func69.trans (congrArg some (by kernel_rfl))⟩
 f25:=⟨Try.f70.name,by decide,Try.func70.trans (congrArg some (by kernel_rfl))⟩
 f26:=⟨Try.f71.name,by decide,Try.func71.trans (congrArg some (by kernel_rfl))⟩
 f27:=⟨Try.f72.name,by decide,Try.func72.trans (congrArg some (by kernel_rfl))⟩
 f28:=Try.func73.trans (congrArg some (by kernel_rfl))
 f29:=Try.func74.trans (congrArg some (by kernel_rfl))
 f46:=⟨Try.f78.name,by decide,Try.func78.trans (congrArg some (by kernel_rfl))⟩
 f47:=Try.func79.trans (congrArg some (by kernel_rfl))
 f48:=Try.func80.trans (congrArg some (by kernel_rfl))
 f49:=⟨Try.f81.name,by decide,Try.func81.trans (congrArg some (by kernel_rfl))⟩
 f50:=⟨Try.f82.name,by decide,Try.func82.trans (congrArg some (by kernel_rfl))⟩
 f57:=⟨Try.f88.name,by decide,Try.func88.trans (congrArg some (by kernel_rfl))⟩
 t0:=Try.underlying0
 a0:=Try.isAgg0
 z0:=Try.sizeOf0
 v0:=Try.zeroValue0
 t3:=Try.underlying3
 a3:=Try.isAgg3
 z3:=Try.sizeOf3
 v3:=Try.zeroValue3
 t4:=Try.underlying4
 a4:=Try.isAgg4
 z4:=Try.sizeOf4
 v4:=Try.zeroValue4
 t5:=Try.underlying5
 a5:=Try.isAgg5
 z5:=Try.sizeOf5
 v5:=Try.zeroValue5
 t9:=Try.underlying9
 a9:=Try.isAgg9
 z9:=Try.sizeOf9
 v9:=Try.zeroValue9
 t22:=Try.underlying56
 a22:=Try.isAgg56
 z22:=Try.sizeOf56
 v22:=Try.zeroValue56
 t25:=Try.underlying76
 a25:=Try.isAgg76
 z25:=Try.sizeOf76
 v25:=Try.zeroValue76
 t39:=Try.underlying89
 a39:=Try.isAgg89
 z39:=Try.sizeOf89
 v39:=Try.zeroValue89
 t45:=Try.underlying109
 a45:=Try.isAgg109
 z45:=Try.sizeOf109
 v45:=Try.zeroValue109
 t46:=Try.underlying110
 a46:=Try.isAgg110
 z46:=Try.sizeOf110
 v46:=Try.zeroValue110
 t50:=Try.underlying49
 a50:=Try.isAgg49
 z50:=Try.sizeOf49
 v50:=Try.zeroValue49
 t53:=Try.underlying116
 a53:=Try.isAgg116
 z53:=Try.sizeOf116
 v53:=Try.zeroValue116
 t55:=Try.underlying118
 a55:=Try.isAgg118
 z55:=Try.sizeOf118
 v55:=Try.zeroValue118
 t66:=Try.underlying121
 a66:=Try.isAgg121
 z66:=Try.sizeOf121
 v66:=Try.zeroValue121
 t70:=Try.underlying125
 a70:=Try.isAgg125
 z70:=Try.sizeOf125
 v70:=Try.zeroValue125
 t76:=Try.underlying134
 a76:=Try.isAgg134
 z76:=Try.sizeOf134
 v76:=Try.zeroValue134
 t77:=Try.underlying135
 a77:=Try.isAgg135
 z77:=Try.sizeOf135
 v77:=Try.zeroValue135 }
end Go.Proofs
namespace Go.Proofs.Ytdlgoofjechocaa
open Go.RowKit Go.Sort Go.Maps Go.Shelf
def SmE (x:Ed):Prop:=(0≤x.f∧x.f<1000000)∧(0≤x.t∧x.t<1000000)∧(0≤x.k∧x.k<1000000)
abbrev EdS := { x:Ed // SmE x }
def encE (x:EdS):List Value := [.int .i64 x.1.f,.int .i64 x.1.t,.int .i64 x.1.k]
def cmpS (x y:EdS):Int:=cmpE x.1 y.1
theorem cmpS_eq (x y:EdS):cmpW x.1 y.1=cmpS x y:=by
 obtain ⟨⟨a1,a2⟩,⟨a3,a4⟩,a5,a6⟩:=x.2
 obtain ⟨⟨b1,b2⟩,⟨b3,b4⟩,b5,b6⟩:=y.2
 unfold cmpW cmpS cmpE
 split
 ·rw [IntKind.wrap_i64];omega
 ·split
  ·rw [IntKind.wrap_i64];omega
  ·rw [IntKind.wrap_i64];omega
theorem z5T (x y:EdS):ltOf cmpS x y=true↔x.1.t<y.1.t∨(x.1.t=y.1.t∧(x.1.f<y.1.f∨(x.1.f=y.1.f∧x.1.k<y.1.k))):=by
 unfold ltOf cmpS cmpE
 rw [decide_eq_true_eq]
 split
 ·omega
 ·split <;> omega
theorem cmpS_swo:SWO (ltOf cmpS) where
 irrefl x:=by
  cases h:ltOf cmpS x x with
  | false=>rfl
  | true=>rw [z5T] at h;omega
 trans x y z h1 h2:=by rw [z5T] at *;omega
 ntrans x y z h1 h2:=by
  have n1 : ¬ _:=fun h=>absurd ((z5T x y).2 h) (by rw [h1];simp)
  have n2 : ¬ _:=fun h=>absurd ((z5T y z).2 h) (by rw [h2];simp)
  cases h:ltOf cmpS x z with
  | false=>rfl
  | true=>rw [z5T] at h;omega
theorem edgeAgg (w:World):(isAgg 60).run Try.prog w = .ok true w:=by kernel_rfl
theorem edgeSz (w:World):(sizeOf 60).run Try.prog w = .ok 3 w:=by kernel_rfl
theorem rowsK_E (ks:List EdS):z6D encE ks=rowE (ks.map (·.1)):=by
 simp [z6D,rowE,encE,edC]
theorem zax (E:List Ed) (hE : ∀ x ∈ E,SmE x) (hlen:E.length<4611686018427387904) (N:Nat) (hp:Hp) (t:Nat) (hlk:hp.lookup t=some (.row 60 3 (rowE E))) :
  MemC Try.prog 42 N hp [.own t,.fn (.func 43) []] fun hp' r=>r = .tup [] ∧ ∃ S:List Ed,S.Perm E∧S.Pairwise (fun x y => ¬ cmpE y x<0)∧hp' = zG hp t (.row 60 3 (rowE S)):=by
 obtain ⟨ks,hks⟩ : ∃ ks:List EdS,ks.map (·.1)=E:=⟨E.attach.map fun x=>⟨x.1,hE x.1 x.2⟩,by simp⟩
 have h:=sort_memK sortE 3 edgeAgg edgeSz encE (fun _=>rfl) (by omega) (fun x v hv=>by simp [encE] at hv;rcases hv with rfl|rfl|rfl <;> rfl) cmpS cmpS_swo 43 ks (by rw [← List.length_map (f:=(·.1)),hks];exact hlen) (Ent.of Try.func43 (by kernel_rfl) rfl) (fun x y=>by
  have:=cmpP_ok x.1 y.1
  rw [cmpS_eq] at this
  exact this) N hp t 60 (by rw [rowsK_E,hks];exact hlk)
 intro L loc w vs hh hvs
 refine Calls.mono (h L loc w vs hh hvs) ?_
 rintro e w' ⟨v,loc',hp',r,h1,⟨h2,ks',h3,h4,h5⟩,h6⟩
 refine ⟨v,loc',hp',r,h1,⟨h2,ks'.map (·.1),?_,?_,?_⟩,h6⟩
 ·rw [← hks];exact h3.map _
 ·exact List.pairwise_map.2 h4
 ·rw [h5,rowsK_E]
theorem z94 {l:List Ev} (hl:l.length≤100000) (hk : ∀ e ∈ l,0≤e.kind∧e.kind<1000000) : ∀ x ∈ z0v l l.length,SmE x:=fun x hx=>by
 obtain ⟨j,e,hj,hy,hx'⟩:=z0n.1 hx
 obtain ⟨i,hij,hxe⟩:=z2u hy hx'
 have he:=hk e (List.mem_of_getElem? hy)
 have hkk:x.k=0∨x.k=e.kind:=by
  unfold z4s at hx'
  rcases List.mem_append.1 hx' with h|h
  ·rcases List.mem_append.1 h with h|h
   ·unfold z3R at h
    split at h
    ·rw [List.mem_singleton.1 h];exact .inl rfl
    ·split at h
     ·rw [List.mem_singleton.1 h];exact .inr rfl
     ·cases h
   ·unfold z1c at h
    obtain ⟨i,hi,rfl⟩:=List.mem_map.1 h
    exact .inr rfl
  ·unfold z2N at h
   split at h
   ·split at h
    ·rw [List.mem_singleton.1 h];exact .inr rfl
    ·cases h
   ·cases h
 refine ⟨?_,?_,?_⟩
 ·rw [hxe];simp only [];omega
 ·rw [hxe];simp only [];omega
 ·omega
theorem z9l {e:Ev} (h:z04 e=true) : 0≤e.kind∧e.kind<1000000:=by
 simp only [z04,z5x,z2k,Bool.and_eq_true,Bool.not_eq_true',Bool.or_eq_false_iff,decide_eq_false_iff_not,Bool.not_eq_false',decide_eq_true_eq] at h
 omega
theorem z9U {l:List Ev} (h:(qx l).2=true) : ∀ e ∈ l,0≤e.kind∧e.kind<1000000:=fun e he=>by
 rw [← z4F] at h
 exact z9l (z5Y l ps0 h e he)
theorem relsJ_len (l:List Ev) (e:Ev) (j:Nat):(z4s l e j).length≤j+2:=by
 unfold z4s
 rw [List.length_append,List.length_append]
 have h1:(z3R l e j).length≤1:=by
  unfold z3R
  split
  ·simp
  ·split <;> simp
 have h2:(z2N l e j).length≤1:=by
  unfold z2N
  split
  ·split <;> simp
  ·simp
 have h3:(z1c l e j (atL l e.obj e.off j)).length≤j:=by
  unfold z1c
  rw [List.length_map]
  refine Nat.le_trans (List.length_filter_le _ _) ?_
  unfold atL
  have:=List.length_filter_le (fun k=>(l[k]?).any (z4r e.obj e.off)) (List.range j)
  rwa [List.length_range] at this
 omega
theorem z8p {l:List Ev} : ∀ n,n≤l.length→(z0v l n).length≤n*(l.length+2)
 | 0,_=>by simp [z0v]
 | n+1,h=>by
  obtain ⟨e,hy⟩:=zT (show n<l.length by omega)
  have h1:=z8p (l:=l) n (by omega)
  have h2:=relsJ_len l e n
  rw [z3D hy,List.length_append,Nat.add_mul]
  omega
def hpE (bb:Nat) (acc:List Ed):Hp := [(5,.boxP (some bb) 56 [.own 0]),(0,.row 60 3 (rowE acc))]
theorem z1N (bb:Nat) (acc:List Ed) (m:Nat) (hm : 6≤m):HpOk m (hpE bb acc) :=
 ⟨fun p hp=>by
  simp only [hpE,List.mem_cons,List.not_mem_nil,or_false] at hp
  rcases hp with rfl|rfl
  ·exact ⟨by simp only [];omega,by simp [AO.qg,AV.okB];omega⟩
  ·exact ⟨by simp only [];omega,rfl⟩,fun p hp=>by
  simp only [hpE,List.mem_cons,List.not_mem_nil,or_false] at hp
  rcases hp with rfl|rfl <;> rfl⟩
theorem edges_ok (l:List Ev) (hl:l.length≤100000):zq Try.prog 32 [.p (.seq 9 (l.map evC))] (.tup [.p (.seq 3 (rowE (z3c l))),.int (errE l)]):=by
 have hv:=valid_t l hl
 cases h5:(qx l).2 with
 | false =>
  rw [h5] at hv
  have hr:z3c l = []:=by simp [z3c,h5]
  have he:errE l=1:=by simp [errE,h5]
  refine zq.of Try.func32 rfl 20 rfl (by decide) (by simp [AV.okB]) ?_
  repeat' (first|refine T.zh fun K hK=>?_|refine T.block ?_|(refine T.reg (by kernel_rfl) fun K' hK'=>?_;simp only [bz];(repeat' (first|(with_reducible refine WL.fin ?_;refine hK' _ ?_;clear hK' K')|((with_reducible refine WL.step fun K2 hK2=>?_);simp only [simprocAttr,implies_true,amz,tys];(repeat' (first|with_reducible (first|(refine hK2 _ ?_;clear hK2 K2)|refine And.intro ?_ ?_|intro hb)|((first|(with_reducible apply zg)|(with_reducible apply zl));case h=>exact CallV.plain (Ent.of Try.func40 (by kernel_rfl) rfl) (hv) (by simp [AV.okB]))))))))|refine T.skip ?_|refine T.exit ?_|refine T.zf rfl ?_|refine T.ze rfl ?_|refine T.cond rfl (fun hc=>?_) (fun hc=>?_)|refine T.ret ?_|simp only [za,z8,reduceIte,Nat.reduceEqDiff]|((repeat ((fail_if_success (refine hK _ ?_));clear hK K));refine hK _ ?_;clear hK K))
  refine zy.retW (.inr rfl) Try.results32 (s':=⟨[(2,.p (.seq 3 [])),(3,.int 1)],[],20,0⟩) (by refine zk.of' rfl ?_;simp only [wks,reduceIte,Nat.reduceEqDiff,ASt.okB,AV.okB,Nat.reduceLT,implies_true,]) ?_
  rw [hr,he];simp only [zu,zo,zn,nilE,simprocAttr,implies_true,amz,tys]
 | true =>
  rw [h5] at hv
  have hrel:=z8A l
  have hr:z3c l=edU l l.length:=by simp [z3c,h5]
  have he:errE l=0:=by simp [errE,h5]
  rw [hr,he]
  have hEl:(z0v l l.length).length≤100000*100002:=Nat.le_trans (z8p l.length (Nat.le_refl _)) (Nat.mul_le_mul hl (by omega))
  refine zq.of Try.func32 rfl 20 rfl (by decide) (by simp [AV.okB]) ?_
  repeat' (first|refine T.zh fun K hK=>?_|refine T.block ?_|(refine T.reg (by kernel_rfl) fun K' hK'=>?_;simp only [bz];(repeat' (first|(with_reducible refine WL.fin ?_;refine hK' _ ?_;clear hK' K')|((with_reducible refine WL.step fun K2 hK2=>?_);simp only [simprocAttr,implies_true,amz,tys];(repeat' (first|with_reducible (first|(refine hK2 _ ?_;clear hK2 K2)|refine And.intro ?_ ?_|intro hb)|((first|(with_reducible apply zg)|(with_reducible apply zl));case h=>exact CallV.plain (Ent.of Try.func40 (by kernel_rfl) rfl) (hv) (by simp [AV.okB]))|((first|(with_reducible apply zg)|(with_reducible apply zl));case h=>exact CallV.plain (Ent.of Try.func41 (by kernel_rfl) rfl) (hrel) (by simp [AV.okB]))))))))|refine T.skip ?_|refine T.exit ?_|refine T.zf rfl ?_|refine T.ze rfl ?_|refine T.cond rfl (fun hc=>?_) (fun hc=>?_)|refine T.ret ?_|simp only [za,z8,reduceIte,Nat.reduceEqDiff]|((repeat ((fail_if_success (refine hK _ ?_));clear hK K));refine hK _ ?_;clear hK K))
  refine T.weak (zk.newrowB _ 0 0 60 3 _ _ _ rfl rfl) ?_;simp only [zG,List.map_cons,List.map_nil,reduceIte,Nat.reduceEqDiff,List.set_cons_succ,List.set_cons_zero,Nat.reduceAdd]
  refine T.weak (zk.upN _ 8 (Nat.le_of_ble_eq_true rfl)) ?_
  refine T.weak (zk.ren _ 0 5) ?_;simp only [ASt.ren,AV.qK,AV.z0p,AV.z06,AV.z0C,AV.z1I,AV.z0F,AV.z0a,AV.z08,AV.z1p,AV.z0E,AV.z0G,AO.z0O,AO.z0c,AO.z10,AO.z0W,List.map_cons,List.map_nil,List.filter_cons,List.filter_nil,zx,qf,reduceIte,Nat.reduceEqDiff,Nat.reduceLT,Nat.reduceBneDiff,bne_self_eq_false,Bool.and_true,Bool.and_false,Bool.true_and,Bool.false_and,Bool.and_self,Bool.false_eq_true,ne_eq,not_false_eq_true,not_true_eq_false,and_self,and_true,true_and,and_false,bne_self_eq_false]
  refine T.weak (zk.ren _ 1 0) ?_;simp only [ASt.ren,AV.qK,AV.z0p,AV.z06,AV.z0C,AV.z1I,AV.z0F,AV.z0a,AV.z08,AV.z1p,AV.z0E,AV.z0G,AO.z0O,AO.z0c,AO.z10,AO.z0W,List.map_cons,List.map_nil,List.filter_cons,List.filter_nil,zx,qf,reduceIte,Nat.reduceEqDiff,Nat.reduceLT,Nat.reduceBneDiff,bne_self_eq_false,Bool.and_true,Bool.and_false,Bool.true_and,Bool.false_and,Bool.and_self,Bool.false_eq_true,ne_eq,not_false_eq_true,not_true_eq_false,and_self,and_true,true_and,and_false,bne_self_eq_false]
  refine T.pin 5 _ rfl fun bb=>?_;simp only [zG,AO.pin,List.map_cons,List.map_nil,reduceIte,Nat.reduceEqDiff]
  refine T.weak (s':=⟨[(0,.p (.seq 9 (l.map evC))),(2,.p (.val nilV)),(3,.int 0),(4,.ptr 5 0),(10,.fn (.func 52) [.elt [.seq 9 (l.map evC)] 0])],hpE bb [],20,1999999⟩) ?_ ?_
  ·refine zk.frm _ _ _ _ (fun t=>?_) (by simp only [wks,reduceIte,Nat.reduceEqDiff,implies_true,and_self,AV.qo]) (by simp only [wks,AV.okB,Nat.reduceLT,decide_true,List.all_cons,List.all_nil,Bool.and_self,AV.qo]) ?_
   ·simp only [hpE,nilE,zx,qf]
    repeat' split
    all_goals first|rfl|omega
   ·exact fun t o h=>(z1N bb [] 1999999 (by omega)).at' h
  refine T.rangeFS 52 [.elt [.seq 9 (l.map evC)] 0] [(4,.ptr 5 0)] rfl (Ent.of Try.func52 (by kernel_rfl) rfl) (by simp [get_mk,zx]) fun lr sp hsn hsp hsa hsb=>?_
  obtain ⟨H,hHd⟩ : ∃ H:List Ed→Hp,∀ acc,H acc=(1999999,.lrec lr sp [(4,.ptr 5 0)]) :: hpE bb acc:=⟨_,fun _=>rfl⟩
  have hH : ∀ acc,HpOk 2000000 (H acc):=fun acc=>by
   rw [hHd]
   exact (z1N bb acc 2000000 (by omega)).cons (by omega) (by simp [AO.z4p,AV.okB]) ((z1N bb acc 1999999 (by omega)).none (Nat.le_refl _))
  have hh : ∀ acc,∃ o,(H acc).lookup 1999999=some o∧o.handle=some (.func (.yield lr) #[] #[]):=fun acc=>⟨_,by rw [hHd,zi],rfl⟩
  have hyld : ∀ acc x,(∃ r,z0v l l.length=acc++x :: r) → ∃ lr' sp' fr',(H acc).lookup 1999999=some (.lrec lr' sp' fr')∧YldC Try.prog lr' 2000000 (H acc) [.agg ((edC x).map .p)] fun hp' r=>hp' = H (acc ++ [x])∧r = .bool true:=by
   rintro acc x ⟨r,hr⟩
   have hal:acc.length≤100000*100002:=by
    have:=congrArg List.length hr
    rw [List.length_append] at this
    omega
   refine ⟨lr,sp,[(4,.ptr 5 0)],by rw [hHd,zi],YldC.of 1999999 [5] (fun hp3=>hp3=hpE bb (acc ++ [x])) (sp:=sp) (fr := [(4,.ptr 5 0)]) (by rw [hHd,zi]) (by rw [hsp];rfl) (by rw [hsp,hsn];simp) (by simp [AV.zS]) ?_ ?_ (by simp [AV.qa,edC,AV.okB])⟩
   ·have hfil:(H acc).filter (fun p=>p.1 != 1999999)=hpE bb acc:=by
     rw [hHd,List.filter_cons,if_neg (by simp)]
     exact List.filter_eq_self.2 fun p hp=>by have:=((z1N bb acc 1999999 (by omega)).ok p hp).1;simp;omega
    rw [hsa,hsb,hsp,hsn,hfil]
    have hal2:=z7j acc
    have hm0 : 1≤maxLen:=by unfold maxLen;omega
    have hm1:acc.length+1≤maxLen:=by unfold maxLen;omega
    have hm2:(acc.length+1)*24≤140737488355328:=by omega
    have hsn2:=rowE_snoc acc x
    simp only [frPut,edC,List.map_cons,List.map_nil,hpE]
    repeat' (first|refine T.zh fun K hK=>?_|refine T.block ?_|(refine T.reg (by kernel_rfl) fun K' hK'=>?_;simp only [bz];(repeat' (first|(with_reducible refine WL.fin ?_;refine hK' _ ?_;clear hK' K')|((with_reducible refine WL.step fun K2 hK2=>?_);simp only [simprocAttr,implies_true,amz,tys,hal2,hm0,hm1,hm2,hsn2];(repeat' with_reducible (first|(refine hK2 _ ?_;clear hK2 K2)|refine And.intro ?_ ?_|intro hb))))))|refine T.skip ?_|refine T.exit ?_|refine T.zf rfl ?_|refine T.ze rfl ?_|refine T.cond rfl (fun hc=>?_) (fun hc=>?_)|refine T.ret ?_|simp only [za,z8,reduceIte,Nat.reduceEqDiff]|((repeat ((fail_if_success (refine hK _ ?_));clear hK K));refine hK _ ?_;clear hK K))
    refine ⟨rfl,⟨[],hpE bb (acc ++ [x]),20,2000000⟩,zk.subs _ _ _ _ (fun t o ho=>?_) (by simp) (by simp) (fun t o h=>(z1N bb _ 2000000 (by omega)).at' h),rfl,(z1N bb _ 1999999 (by omega)).none (Nat.le_refl _),rfl⟩
    exact (zb (Nat.ne_of_lt ((z1N bb _ 2000000 (by omega)).at' ho).1)).trans ho
   ·rintro hp3 rfl
    refine ⟨?_,?_,?_,rfl⟩
    ·intro t ht
     rw [List.mem_singleton.1 ht]
     simp [Kept,hHd,hpE,zx,AO.z5g]
    ·exact fun p hp=>AO.z3Y .zB (Nat.le_refl _) ((z1N bb _ 1999999 (by omega)).ok p hp).2
    ·rw [hHd]
  have hmem:=rels_ok 2000010 rfl l (by omega) (evI_of h5) H hH 1999999 (by omega) (.func (.yield lr) #[] #[]) hh hyld
  refine ⟨2000000,H [],_,[5],hmem,?_,by simp [AV.okB,AV.qo],?_⟩
  ·have he:ASt.hp (ASt.add ⟨[(0,.p (.seq 9 (l.map evC))),(2,.p (.val nilV)),(3,.int 0),(4,.ptr 5 0),(10,.fn (.func 52) [.elt [.seq 9 (l.map evC)] 0])],hpE bb [],20,1999999⟩ (.lrec lr sp [(4,.ptr 5 0)]))=H []:=by rw [hHd];rfl
   refine ⟨Nat.le_refl _,fun p hp=>⟨?_,(hH []).ok p hp⟩,fun p hp _=>?_⟩
   ·rw [he];exact (hH []).one p hp
   ·rw [he] at hp;rw [(hH []).one p hp];rfl
  rintro hp' r ⟨rfl,rfl⟩
  refine ⟨fun t ht _=>?_,⟨_,by rw [hHd,zi]⟩,fun ob=>?_⟩
  ·rw [List.mem_singleton.1 ht]
   simp [Kept,hHd,hpE,zx,AO.z5g]
  have hfl:List.filter (fun p=>decide (2000000≤p.1)) ((1999999,AO.lrec lr sp [(4,.ptr 5 0)]) :: hpE bb []) = []:=by
   have:=(hH []).le
   rw [hHd] at this
   exact this
  have hst9:List.map (fun p=>if p.1=1999999 then (1999999,AO.raw (.func (.yield lr) #[] #[]) ob) else p) (hpE bb (z0v l l.length))=hpE bb (z0v l l.length):=(z1N bb _ 1999999 (by omega)).set _ (Nat.le_refl _)
  simp only [ASt.qU,ASt.add,hfl,List.map_nil,List.append_nil,List.map_cons,zG,hHd,hst9,AV.zU,AV.zS,AV.zM,AV.zW,AV.ql,AV.zY,AV.zJ,AV.zL,AV.qh,AV.zZ,AV.zX,List.mem_singleton,or_true,reduceIte,Nat.reduceEqDiff]
  obtain ⟨E,hE⟩ : ∃ E,E=z0v l l.length:=⟨_,rfl⟩
  have hsm:=z94 hl (z9U h5)
  have heq : ∀ S:List Ed,S.Perm E→S.Pairwise (fun x y => ¬ cmpE y x<0)→z3S S=edU l l.length:=fun S h1 h2=>edges_eq h5 (fun e he=>(z9U h5 e he).1) (by rw [← hE];exact h1) h2
  rw [← hE] at hEl hsm ⊢
  (try simp only [za,z8,reduceIte,Nat.reduceEqDiff]);(try ((repeat ((fail_if_success (refine hK _ ?_));clear hK K));refine hK _ ?_;clear hK K))
  refine T.weak (s':=⟨[(4,.ptr 5 0)],hpE bb E,20,6⟩) (zk.subs _ _ _ _ (fun t o ho=>?_) (by simp only [wks,reduceIte,Nat.reduceEqDiff,implies_true,and_self]) (by simp only [wks,AV.okB,Nat.reduceLT,decide_true]) (fun t o h=>(z1N bb E 6 (by omega)).at' h)) ?_
  ·exact (zb (by have:=((z1N bb E 6 (by omega)).at' ho).1;omega)).trans ho
  simp only [hpE]
  have hso:=zax E hsm (by omega) 6 [(5,.boxP (some bb) 56 [.own 0]),(0,.row 60 3 (rowE E))] 0 rfl
  repeat' (first|refine T.zh fun K hK=>?_|refine T.block ?_|(refine T.reg (by kernel_rfl) fun K' hK'=>?_;simp only [bz];(repeat' (first|(with_reducible refine WL.fin ?_;refine hK' _ ?_;clear hK' K')|((with_reducible refine WL.step fun K2 hK2=>?_);simp only [simprocAttr,implies_true,amz,tys];(repeat' (first|with_reducible (first|(refine hK2 _ ?_;clear hK2 K2)|refine And.intro ?_ ?_|intro hb)|((with_reducible refine qp 6 _ _ [5] (Ent.of Try.func42 (by kernel_rfl) rfl) (hso) ?_ ?_ ?_);(focus ((refine ⟨Nat.le_of_ble_eq_true rfl,?_,?_⟩ <;> simp only [List.mem_cons,List.not_mem_nil,or_false,forall_eq_or_imp,forall_eq,zx,qf,reduceIte,Nat.reduceEqDiff,AO.qg,AO.qI,AO.qG,AO.qH,AV.okB,AV.qa,AV.qo,AV.qy,List.all_cons,List.all_nil,Bool.and_true,Bool.and_self,Nat.reduceLT,decide_true,true_and,and_true,Option.isSome_some,true_implies,false_implies,implies_true,and_self,Nat.lt_irrefl,Option.some.injEq,]);done));(focus (simp [AV.okB,AV.qo];done));rintro hp' r ⟨rfl,S,hpm,hst',rfl⟩;refine ⟨by simp [Kept,zG,zx,AO.z5g],?_⟩;simp only [ASt.qU,AV.zU,AV.zS,AV.zM,AV.zW,AV.ql,AV.zY,AV.zJ,AV.zL,AV.qh,AV.zZ,AV.zX,AO.keep,List.map_cons,List.map_nil,List.filter_cons,List.filter_nil,Nat.reduceLeDiff,decide_true,decide_false,reduceIte,Bool.false_eq_true,List.cons_append,List.nil_append,List.mem_cons,List.not_mem_nil,or_false,false_or,or_true,true_or,Nat.reduceEqDiff,zH,qm,Nat.le_refl,zG])|((with_reducible refine qp 1 _ _ [] (Ent.of Try.func44 (by kernel_rfl) rfl) (zaw S (by have:=hpm.length_eq;omega)) ?_ ?_ ?_);(focus ((refine ⟨Nat.le_of_ble_eq_true rfl,?_,?_⟩ <;> simp only [List.mem_cons,List.not_mem_nil,or_false,forall_eq_or_imp,forall_eq,zx,qf,reduceIte,Nat.reduceEqDiff,AO.qg,AO.qI,AO.qG,AO.qH,AV.okB,AV.qa,AV.qo,AV.qy,List.all_cons,List.all_nil,Bool.and_true,Bool.and_self,Nat.reduceLT,decide_true,true_and,and_true,Option.isSome_some,true_implies,false_implies,implies_true,and_self,Nat.lt_irrefl,Option.some.injEq,]);done));(focus (simp [AV.okB,AV.qo];done));rintro hp' r ⟨R',rfl,hR'⟩;refine ⟨by simp,?_⟩;simp only [ASt.qU,AV.zU,AV.zS,AV.zM,AV.zW,AV.ql,AV.zY,AV.zJ,AV.zL,AV.qh,AV.zZ,AV.zX,AO.keep,List.map_cons,List.map_nil,List.filter_cons,List.filter_nil,Nat.reduceLeDiff,decide_true,decide_false,reduceIte,Bool.false_eq_true,List.cons_append,List.nil_append,List.mem_cons,List.not_mem_nil,or_false,false_or,or_true,true_or,Nat.reduceEqDiff,zH,qm,Nat.le_refl,zG])))))))|refine T.skip ?_|refine T.exit ?_|refine T.zf rfl ?_|refine T.ze rfl ?_|refine T.cond rfl (fun hc=>?_) (fun hc=>?_)|refine T.ret ?_|simp only [za,z8,reduceIte,Nat.reduceEqDiff]|((repeat ((fail_if_success (refine hK _ ?_));clear hK K));refine hK _ ?_;clear hK K))
  have hcE:=heq S hpm hst'
  rcases hR' with ⟨rfl,rfl⟩|⟨m,rfl,q1,q2,q3⟩
  ·rw [hcE]
   refine zy.retW (.inr rfl) Try.results32 (zk.frz _ 0) ?_;simp only [zu,zo,zn,ASt.frz,ASt.subst,AO.z3a,AO.z4m,AO.z5a,AO.z5l,AO.z2K,AV.z8l,AV.z5b,AV.z4f,AV.z3G,AV.z3w,AV.z2Q,AV.z3O,AV.z3n,AV.z5r,AV.z2J,List.filter_cons,List.filter_nil,bne_self_eq_false,Nat.reduceBneDiff,Nat.reduceEqDiff,Bool.false_eq_true,simprocAttr,implies_true,amz,tys]
  ·rw [hcE] at q3
   refine zy.retW (.inr rfl) Try.results32 ((zk.cut _ 0 m).trans (zk.frz _ 0)) ?_
   simp only [ASt.cut,AV.cut_own,AV.cut_ptr,AV.cut_pre,AV.cut_p,AV.za0,AV.cut_tup,AO.cut_box,AO.cut_row,zG,List.map_cons,List.map_nil,zx,qf,reduceIte,Nat.reduceEqDiff,and_self,q1,q2,q3,zu,zo,zn,ASt.frz,ASt.subst,AO.z3a,AO.z4m,AV.z8l,AV.z4f,AV.z3w,AV.z2Q,AV.z2J,List.filter_cons,List.filter_nil,bne_self_eq_false,Nat.reduceBneDiff,Bool.false_eq_true,simprocAttr,implies_true,amz,tys]
end Go.Proofs.Ytdlgoofjechocaa
namespace Go.Proofs.Ytdlgoofjechocaa
open Go.RowKit Go.Sort
theorem Oper.wp_mono2 {P:Program} {o:Oper} {a:Act} {w:World} {K K' : Act→World→Prop} {Q Q' : Exit→Act→World→Prop} (h : ∀ a w,K a w→K' a w) (hq : ∀ e a w,e ≠ .normal→Q e a w→Q' e a w)
  (hh:o.wp P a w K Q):o.wp P a w K' Q':=by
 unfold Oper.wp at *
 generalize (execOp a.eval o).run P w=r at *
 cases r with
 | ok n w' =>
  cases n <;> simp only [Oper.upon] at hh ⊢ <;>
   first
    | exact h _ _ hh
    | exact Calls.mono hh (fun e w'' he=>by cases e <;> first|exact h _ _ he|exact hq _ _ _ (by simp) he|exact (let ⟨a',w',k⟩:=he;⟨a',w',hq _ _ _ (by simp) k⟩))
    | exact Rows.mono hh (fun _ _ he=>h _ _ he)
 | halt x w'=>cases x <;> simp only [Oper.upon] at hh ⊢ <;> first|exact hq _ _ _ (by simp) hh|exact hh|exact (let ⟨a',w',k⟩:=hh;⟨a',w',hq _ _ _ (by simp) k⟩)
def TA (P:Program) (ops:Array Oper) (K:ASt→Prop):Nat→Array Bool→ASt→Prop
 | 0,listed,s=>Region.ready .any ops listed = []∧K s
 | n+1,listed,s=>(Region.ready .any ops listed = []→K s) ∧ ∀ i ∈ Region.ready .any ops listed,∃ o,ops[i]? = some o∧o.guard=none∧z4W o s∧WO P o s (TA P ops K n (listed.setIfInBounds i true))
theorem TA.sound {P:Program} {ops:Array Oper} {K:ASt→Prop} : ∀ (n:Nat) (listed:Array Bool) (s:ASt),TA P ops K n listed s → ∀ (Post:Exit→Act→World→Prop) (L:Lim) (loc:Nat→Option Value) (a:Act) (w:World),
  (∀ e a' w',z1s L loc w (NQ fun _=>K) e a' w' → Post e a' w')→Rel All L s loc a w→wpAny P .any ops Post n listed a w
 | 0,listed,s,h,Post,L,loc,a,w,hP,hr=>⟨h.1,hP _ _ _ (z1s.of ⟨rfl,h.2⟩ hr (Ext.refl _ _))⟩
 | n+1,listed,s,h,Post,L,loc,a,w,hP,hr=>⟨fun e=>hP _ _ _ (z1s.of ⟨rfl,h.1 e⟩ hr (Ext.refl _ _)),fun i hi=>by
  obtain ⟨o,ho,hg,hd,hW⟩:=h.2 i hi
  have h1:TL P ops (NQ fun _=>TA P ops K n (listed.setIfInBounds i true)) [o] s:=WO.sound (by simp [z4I,hg]) hd (WO.mono (fun s k=>TL.nil ⟨rfl,k⟩) hW)
  have h2:=h1 L loc a w hr
  unfold wpList at h2
  simp only [Region.wanted,hg,if_true] at h2
  unfold wpOp
  rw [ho]
  simp only [Region.wanted,hg,if_true]
  rcases h2 with h2|⟨_,a',w',s',loc',hx,_⟩
  ·refine .inl (Oper.wp_mono2 (fun a' w' k=>?_) (fun e a' w' hne k=>?_) h2)
   ·obtain ⟨s',loc',⟨_,hT⟩,⟨L',hr',hl⟩,hx⟩:=k
    exact TA.sound n _ s' hT Post L' loc' a' w' (fun e a2 w2 k=>hP _ _ _ (k.go hr' hl hx)) hr'
   ·obtain ⟨s',loc',⟨e1,_⟩,_⟩:=k
    exact absurd e1 hne
  ·cases hx.1⟩
theorem T.any {F:Fence} [FOk F] {P:Program} {Q:Exit→ASt→Prop} {s:ASt} {id:Nat} {l:List Oper} (hm:P.follows .mixedOrders=true) (hnd:z2W l=true) (h : ∀ K:ASt→Prop,(∀ s,Q .normal s→K s)→TA P l.toArray K l.toArray.size (Array.replicate l.toArray.size false) s):T F P (.region id l.toArray true) Q s:=fun L loc a w hr=>by
 refine wpIn_mono (wpIn_region_any hm (z6i NQ.out (z1g hnd) _ _ _ _ ?_)) fun _ _ _ k=>NQ.post k
 have hb:Blw w.heap.size w w.drew:=(Blw.refl _ w).drew
 have hr' : Rel All L s loc a w.drew:=⟨hr.defers,hr.size,fun t ht=>(hr.fr t ht).blw hb,hr.hp.below hb⟩
 exact TA.sound _ _ s (h (Q .normal) fun _ h=>h) _ L loc a w.drew (fun e a' w' ⟨s',loc',⟨h0,h1⟩,h2,h3⟩=>z1s.ext (.of_below hb) ⟨s',loc',⟨h0,h1⟩,h2,h3⟩) hr'
theorem TA.next {P:Program} {ops:Array Oper} {K:ASt→Prop} {n:Nat} {listed:Array Bool} {s:ASt} (r:List Nat) (hr:Region.ready .any ops listed=r) (hne:r ≠ []) (h : ∀ J:Nat→ASt→Prop,(∀ i s,TA P ops K n (listed.setIfInBounds i true) s→J i s) → ∀ i ∈ r,∃ o,ops[i]? = some o∧o.guard=none∧z4W o s∧WO P o s (J i)):TA P ops K (n+1) listed s :=
 ⟨fun e=>absurd (hr.symm.trans e) hne,by rw [hr];exact h _ fun i s h=>h⟩
def allL:List Oper→Nat→(Nat→Oper→Prop)→Prop
 | [],_,_=>True
 | o :: r,k,f=>f k o∧allL r (k+1) f
theorem z8D : ∀ {l:List Oper} {k:Nat} {f:Nat→Oper→Prop},allL l k f → ∀ i o,l[i]? = some o→f (k+i) o
 | [],_,_,_,i,o,ho=>by simp at ho
 | p :: r,k,f,h,0,o,ho=>by cases ho;exact h.1
 | p :: r,k,f,h,i+1,o,ho=>by
  have:=z8D h.2 i o (by simpa using ho)
  rwa [show k+1+i=k+(i+1) by omega] at this
def rdB (ops:Array Oper) (listed:Array Bool) (i:Nat):Bool:=(Region.ready .any ops listed).contains i
theorem TA.z3T {P:Program} {l:List Oper} {K:ASt→Prop} {n:Nat} {listed:Array Bool} {s:ASt} (hne:(Region.ready .any l.toArray listed).isEmpty=false) (h : ∀ J:Nat→ASt→Prop,(∀ i s,TA P l.toArray K n (listed.setIfInBounds i true) s→J i s)→allL l 0 fun i o=>rdB l.toArray listed i=false∨(o.guard=none∧z4W o s∧WO P o s (J i))):TA P l.toArray K (n+1) listed s :=
 ⟨fun e=>(by rw [e] at hne;cases hne),fun i hi=>by
  have hlt:i<l.toArray.size:=by
   have h0:=hi
   unfold Region.ready at h0
   exact List.mem_range.1 (List.mem_filter.1 h0).1
  have ho:l[i]? = some (l[i]'(by simpa using hlt)):=List.getElem?_eq_getElem _
  rcases z8D (h _ fun i s h=>h) i _ ho with h1|h1
  ·rw [Nat.zero_add] at h1
   unfold rdB at h1
   rw [List.contains_iff_mem.2 hi] at h1
   cases h1
  ·rw [Nat.zero_add] at h1
   exact ⟨_,by rw [List.getElem?_toArray];exact ho,h1.1,h1.2.1,h1.2.2⟩⟩
theorem TA.stop {P:Program} {ops:Array Oper} {K:ASt→Prop} {listed:Array Bool} {s:ASt} (hr:Region.ready .any ops listed = []) (h:K s):TA P ops K 0 listed s:=⟨hr,h⟩
end Go.Proofs.Ytdlgoofjechocaa
