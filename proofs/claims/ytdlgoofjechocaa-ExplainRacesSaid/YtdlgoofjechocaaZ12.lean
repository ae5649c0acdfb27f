/- Texts Ui, Ul, Um, Un, Uo, Up, Uq, Uf. -/
import Derived.Test.YtdlgoofjechocaaZ11
set_option maxHeartbeats 32000000
set_option maxRecDepth 100000
set_option linter.unusedSimpArgs false
set_option linter.unusedVariables false
namespace Go.Proofs.Ytdlgoofjechocaa
open Go.RowKit Go.Sort
def aftP (l:List Ev):List (List PV):=(matI l.length (aftL l)).map fun r => [PV.seq 1 r]
theorem aftP_len (l:List Ev):(aftP l).length=l.length:=by simp [aftP,z0U]
theorem aftP_at {l:List Ev} {k:Nat} (h:k<l.length):(aftP l)[k]? = some [PV.seq 1 (qw (aftL l k))]:=by
 unfold aftP;rw [List.getElem?_map,z3s _ h];rfl
def hpN (B n:Nat) (F G:Nat→List Nat):Hp:=(0,.arow 24 (owns 10 n)) :: (1,.arow 24 (owns B n)) :: (mat 3 1 10 (matI n F)++mat 3 1 B (matI n G))
theorem z8g {B n:Nat} (hB:B=1000010) (F G:Nat→List Nat) (hn:n≤1000000) (t:Nat) (o:AO) (h:(hpN B n F G).lookup t=some o):t<2000020∧o.okB 2000020=true:=by
 unfold hpN at h
 by_cases e:t=0
 ·subst e
  rw [zi] at h;cases h
  exact ⟨by omega,z1Y n 10 2000020 (by omega)⟩
 ·rw [zb e] at h
  by_cases e1:t=1
  ·subst e1
   rw [zi] at h;cases h
   exact ⟨by omega,z1Y n B 2000020 (by omega)⟩
  ·rw [zb e1,qP,z0D,z0D] at h
   have key : ∀ (b:Nat) (R:List (List (List PV))) (o:AO),b+R.length≤2000020→(if b≤t then (R[t-b]?).map (AO.row 3 1) else none)=some o→t<2000020∧o.okB 2000020=true:=fun b R o hb h=>by
    split at h
    ·obtain ⟨r,h1,rfl⟩:=Option.map_eq_some_iff.1 h
     have:=(List.getElem?_eq_some_iff.1 h1).1
     exact ⟨by omega,rfl⟩
    ·cases h
   cases h1:(if 10≤t then ((matI n F)[t-10]?).map (AO.row 3 1) else none) with
   | some o' =>
    rw [h1] at h
    cases h
    exact key 10 _ _ (by rw [z0U];omega) h1
   | none =>
    rw [h1] at h
    exact key B _ _ (by rw [z0U];omega) h
theorem zk.matN (B:Nat) (hB:B=1000010) (n:Nat) (F G:Nat→List Nat) (m N:Nat) (hn:n≤1000000):zk ⟨[(6,.own 0),(7,.own 1),(8,.bool true)],hpN B n F G,m,N⟩ ⟨[(6,.p (.seq 1 ((matI n F).map fun r => [PV.seq 1 r]))),(7,.p (.seq 1 ((matI n G).map fun r => [PV.seq 1 r]))),(8,.bool true)],[],m,N⟩:=by
 have h1:=zk.z7D [(6,.own 0),(7,.own 1),(8,.bool true)] m N 0 24 3 ((1,.arow 24 (owns B n)) :: mat 3 1 B (matI n G)) (matI n F) 10 [] (by omega) (fun k y hk1 hk2=>by
  rw [z0U] at hk2
  refine ⟨?_,?_,?_⟩
  ·have e0 : ¬ 0=k:=by omega
   have e1 : ¬ 1=k:=by omega
   simp [AV.sub,e0,e1]
  ·rw [List.map_cons,z4e,AO.z1T,z2H _ _ _ _ (.inl (by omega))]
  ·have e1:(1 != k)=true:=by simp;omega
   rw [List.filter_cons,if_pos (by simpa using e1),z6S _ _ _ _ _ (.inl (by omega))])
 rw [z0U] at h1
 refine zk.trans (zk.hpe _ _ fun t=>?_) (h1.trans ?_)
 ·unfold hpN
  by_cases e:t=0
  ·subst e;simp only [zi,List.map_nil,List.nil_append]
  ·rw [zb e,zb e,qP]
   by_cases e1:t=1
   ·subst e1
    rw [z3j _ _ _ _ _ (by omega),zi]
    simp only [zi];rfl
   ·rw [zb e1,zb e1,qP]
 ·refine (zk.ofA _ 0 24 ((matI n F).map (PV.seq 1)) (by simp only [List.nil_append];exact zi)).trans ?_
  refine zk.trans (zk.hpe _ ((0,.row 24 1 ((matI n F).map fun r => [PV.seq 1 r])) :: (1,.arow 24 (owns B n)) :: mat 3 1 B (matI n G)) fun t=>?_) ?_
  ·simp only [List.nil_append]
   rw [zC]
   by_cases e:t=0
   ·subst e;rw [if_pos rfl,zi,zi,List.map_map];rfl
   ·rw [if_neg e,zb e,zb e]
  refine (zk.frz _ 0).trans ?_
  have h2:=zk.z7D [(6,.p (.seq 1 ((matI n F).map fun r => [PV.seq 1 r]))),(7,.own 1),(8,.bool true)] m N 1 24 3 [] (matI n G) B [] (by omega) (fun k y hk1 hk2=>by
   have e1 : ¬ 1=k:=by omega
   exact ⟨by simp [AV.sub,e1],rfl,rfl⟩)
  rw [z0U] at h2
  have he:ASt.frz ⟨[(6,.own 0),(7,.own 1),(8,.bool true)],(0,.row 24 1 ((matI n F).map fun r => [PV.seq 1 r])) :: (1,.arow 24 (owns B n)) :: mat 3 1 B (matI n G),m,N⟩ 0
    = ⟨[(6,.p (.seq 1 ((matI n F).map fun r => [PV.seq 1 r]))),(7,.own 1),(8,.bool true)],(1,.arow 24 (owns B n)) :: mat 3 1 B (matI n G),m,N⟩:=by
   unfold ASt.frz
   simp only [zi,ASt.subst]
   congr 1
   ·simp [AV.sub]
   ·rw [List.map_cons,List.map_cons,List.filter_cons,if_neg (by simp),List.filter_cons,if_pos (by simp),z4e,z6S _ _ _ _ _ (.inl (by omega)),AO.z1T,z2H _ _ _ _ (.inl (by omega))]
  rw [he]
  refine zk.trans (zk.hpe _ _ fun t=>?_) (h2.trans ?_)
  ·simp only [List.map_nil,List.nil_append,List.append_nil]
  ·refine (zk.ofA _ 1 24 ((matI n G).map (PV.seq 1)) (by simp only [List.nil_append];exact zi)).trans ?_
   refine zk.trans (zk.hpe _ [(1,.row 24 1 ((matI n G).map fun r => [PV.seq 1 r]))] fun t=>?_) ?_
   ·simp only [List.nil_append]
    rw [zC]
    by_cases e:t=1
    ·subst e;rw [if_pos rfl,zi,zi,List.map_map];rfl
    ·rw [if_neg e,zb e,zb e]
   refine (zk.frz _ 1).trans ?_
   simp only [ASt.frz,zi,ASt.subst,List.map_cons,List.map_nil,AV.z3w,AV.z8l,if_true,List.filter_cons,List.filter_nil,bne_self_eq_false,Bool.false_eq_true,if_false]
   exact zk.refl _
theorem zk.twoN (B:Nat) (hB:B=1000010) (fr:List (Nat × AV)) (n m:Nat) (hn:n≤1000000):zk ⟨fr,[(0,.row 24 1 (List.replicate n [PV.val nilV])),(1,.row 24 1 (List.replicate n [PV.val nilV]))],m,2⟩ ⟨fr,hpN B n (fun _ => []) (fun _ => []),m,2000020⟩:=by
 have hr:List.replicate n [PV.val nilV]=(List.replicate n (PV.val nilV)).map fun x => [x]:=by simp
 rw [hr]
 refine (zk.toA _ 0 24 _ rfl).trans ?_
 refine (zk.toA _ 1 24 (List.replicate n (PV.val nilV)) rfl).trans ?_
 refine zk.trans (zk.hpe _ [(0,.arow 24 (List.replicate n (.p (.val nilV)))),(1,.arow 24 (List.replicate n (.p (.val nilV))))] fun t=>?_) ?_
 ·simp only [zG,List.map_cons,List.map_nil,List.map_replicate,if_true]
  rfl
 refine (zk.upN _ 10 (by simp)).trans ?_
 refine (zk.nilsA 0 24 3 fr m 10 n _ rfl (by omega) (fun k hk=>by rw [zb (by omega),zb (by omega)];rfl) n (Nat.le_refl n)).trans ?_
 refine (zk.upN _ B (by simp only;omega)).trans ?_
 refine (zk.nilsA 1 24 3 fr m B n _ (by rw [qP,zC];rfl) (by omega) (fun k hk=>by
  rw [qP,zC,if_neg (by omega),zb (by omega),zb (by omega),z7d _ _ _ _ _ (by simp;omega)];rfl) n (Nat.le_refl n)).trans ?_
 refine (zk.upN _ 2000020 (by simp only;omega)).trans (zk.hpe _ _ fun t=>?_)
 simp only [Nat.sub_self,List.replicate_zero,List.append_nil]
 unfold hpN
 rw [matI_nil]
 by_cases e:t=0
 ·subst e
  rw [zi,qP,zC,if_neg (by omega),qP,zC,if_pos rfl];rfl
 ·by_cases e1:t=1
  ·subst e1
   rw [zb (by omega),zi,qP,zC,if_pos rfl,qP,zC];rfl
  ·rw [zb e,zb e1]
   simp only [qP,zC,e,e1,if_false,zb e,zb e1,List.lookup_nil,Option.none_or]
theorem z3E : ∀ {H:Hp} {k:Nat} (o:AO),H.lookup k=none→List.map (fun p=>if p.1=k then (k,o) else p) H=H
 | [],_,_,_=>rfl
 | (a,b) :: r,k,o,h=>by
  have hne : ¬ k=a:=fun e=>by subst e;rw [zi] at h;cases h
  rw [zb hne] at h
  rw [List.map_cons,z3E o h,if_neg (fun e=>hne e.symm)]
theorem hpN_lk {B n:Nat} {F G:Nat→List Nat} {t:Nat} (h:t<n) (hn:n≤1000000):List.lookup (t+10) (mat 3 1 10 (matI n F)++mat 3 1 B (matI n G))=some (.row 3 1 (qw (F t))):=by
 rw [qP,z2o,z3s F h];rfl
theorem hpN_lk2 {B n:Nat} (hB:B=1000010) {F G:Nat→List Nat} {t:Nat} (h:t<n) (hn:n≤1000000):List.lookup (t+B) (mat 3 1 10 (matI n F)++mat 3 1 B (matI n G))=some (.row 3 1 (qw (G t))):=by
 rw [qP,z7d _ _ _ _ _ (by rw [z0U];omega),z2o,z3s G h];rfl
theorem hpN_hi {B n:Nat} (hB:B=1000010) {F G:Nat→List Nat} {t:Nat} (h : 2000010≤t) (hn:n≤1000000):List.lookup t (mat 3 1 10 (matI n F)++mat 3 1 B (matI n G))=none:=by
 rw [qP,z7d _ _ _ _ _ (by rw [z0U];omega),z7d _ _ _ _ _ (by rw [z0U];omega)];rfl
theorem za2 {b n t:Nat} (h:t<n) (N:Nat) (hN:b+n≤N):List.map (AV.ren N (t+b)) ((owns b n).set t (.own N))=owns b n:=by
 apply List.ext_getElem?
 intro q
 rw [List.getElem?_map,List.getElem?_set]
 by_cases hq:q<n
 ·rw [z0L _ _ _ hq]
  by_cases e:t=q
  ·subst e;rw [if_pos rfl,if_pos (by rw [qL];exact h)];simp [AV.qK]
  ·rw [if_neg e]
   simp only [Option.map_some,AV.qK]
   rw [if_neg (by omega),if_neg (by omega)]
 ·rw [if_neg (by omega),List.getElem?_eq_none (by rw [qL];omega)];rfl
theorem bfE_len (E:List Ed) (t:Nat):(bfE E t).length≤E.length:=by unfold bfE;rw [List.length_map];exact List.length_filter_le _ _
theorem afE_len (E:List Ed) (t:Nat):(afE E t).length≤E.length:=by unfold afE;rw [List.length_map];exact List.length_filter_le _ _
theorem z9b {l:List Ev} (hl:l.length≤100000):(z3c l).length≤10000000000:=by
 unfold z3c
 split
 ·exact Nat.le_trans (edU_len l l.length l.length (Nat.le_refl _)) (Nat.mul_le_mul hl hl)
 ·simp
theorem hpN_st1 {B n:Nat} (hB:B=1000010) {F G:Nat→List Nat} {t N:Nat} {r:List Nat} {box o:AO} (ht:t<n) (hn:n≤1000000) (hN : 2000020<N) (hb:box.ren N (t+10)=box) (q:Nat) :
  List.lookup q ((2000020,box) :: hpN B n (upL F t r) G)=if q=N∨q=t+10 then (if q=t+10 then some (.row 3 1 (qw r)) else none) else (List.lookup q ((N,o) :: (2000020,box) :: (0,.arow 24 ((owns 10 n).set t (.own N))) :: (1,.arow 24 (owns B n)) :: List.filter (fun p=>p.1 != t+10) (mat 3 1 10 (matI n F)++mat 3 1 B (matI n G)))).map (AO.ren N (t+10)):=by
 unfold hpN
 by_cases c0:q=2000020
 ·subst c0
  rw [zi,if_neg (by omega),zb (by omega),zi,Option.map_some,hb]
 rw [zb c0]
 by_cases c1:q=0
 ·subst c1
  rw [zi,if_neg (by omega),zb (by omega),zb (by omega),zi,Option.map_some,AO.z2G,za2 ht N (by omega)]
 rw [zb c1]
 by_cases c2:q=1
 ·subst c2
  rw [zi,if_neg (by omega),zb (by omega),zb (by omega),zb (by omega),zi,Option.map_some,AO.z2G,z3I _ _ _ _ (by omega) (by omega)]
 rw [zb c2,lkH hB _ _ hn]
 by_cases c3:q=N
 ·subst c3
  rw [if_neg (by omega),if_neg (by omega),if_pos (.inl rfl),if_neg (by omega)]
 by_cases c4:q=t+10
 ·subst c4
  rw [if_pos (by omega),if_pos (.inr rfl),if_pos rfl,Nat.add_sub_cancel]
  simp [upL]
 rw [if_neg (show ¬ (q=N∨q=t+10) by omega),zb c3,zb c0,zb c1,zb c2,z0u,if_neg c4,lkH hB _ _ hn]
 by_cases h1 : 10≤q∧q<n+10
 ·rw [if_pos h1,if_pos h1,Option.map_some,AO.z0c]
  unfold upL
  rw [if_neg (by omega)]
 ·rw [if_neg h1,if_neg h1]
  by_cases h2:B≤q∧q<n+B
  ·rw [if_pos h2,Option.map_some,AO.z0c]
  ·rw [if_neg h2];rfl
theorem hpN_st2 {B n:Nat} (hB:B=1000010) {F G:Nat→List Nat} {t N:Nat} {r:List Nat} {box o:AO} (ht:t<n) (hn:n≤1000000) (hN : 2000020<N) (hb:box.ren N (t+B)=box) (q:Nat) :
  List.lookup q ((2000020,box) :: hpN B n F (upL G t r))=if q=N∨q=t+B then (if q=t+B then some (.row 3 1 (qw r)) else none) else (List.lookup q ((N,o) :: (2000020,box) :: (0,.arow 24 (owns 10 n)) :: (1,.arow 24 ((owns B n).set t (.own N))) :: List.filter (fun p=>p.1 != t+B) (mat 3 1 10 (matI n F)++mat 3 1 B (matI n G)))).map (AO.ren N (t+B)):=by
 unfold hpN
 by_cases c0:q=2000020
 ·subst c0
  rw [zi,if_neg (by omega),zb (by omega),zi,Option.map_some,hb]
 rw [zb c0]
 by_cases c1:q=0
 ·subst c1
  rw [zi,if_neg (by omega),zb (by omega),zb (by omega),zi,Option.map_some,AO.z2G,z3I _ _ _ _ (by omega) (by omega)]
 rw [zb c1]
 by_cases c2:q=1
 ·subst c2
  rw [zi,if_neg (by omega),zb (by omega),zb (by omega),zb (by omega),zi,Option.map_some,AO.z2G,za2 ht N (by omega)]
 rw [zb c2,lkH hB _ _ hn]
 by_cases c3:q=N
 ·subst c3
  rw [if_neg (by omega),if_neg (by omega),if_pos (.inl rfl),if_neg (by omega)]
 by_cases c4:q=t+B
 ·subst c4
  rw [if_neg (by omega),if_pos (by omega),if_pos (.inr rfl),if_pos rfl,Nat.add_sub_cancel]
  simp [upL]
 rw [if_neg (show ¬ (q=N∨q=t+B) by omega),zb c3,zb c0,zb c1,zb c2,z0u,if_neg c4,lkH hB _ _ hn]
 by_cases h1 : 10≤q∧q<n+10
 ·rw [if_pos h1,if_pos h1,Option.map_some,AO.z0c]
 ·rw [if_neg h1,if_neg h1]
  by_cases h2:B≤q∧q<n+B
  ·rw [if_pos h2,if_pos h2,Option.map_some,AO.z0c]
   unfold upL
   rw [if_neg (by omega)]
  ·rw [if_neg h2,if_neg h2];rfl
theorem hpB_ok {B n:Nat} (hB:B=1000010) (F G:Nat→List Nat) (hn:n≤1000000) {box:AO} (hb:box.okB 2000030=true) (q:Nat) (o:AO) (h:List.lookup q ((2000020,box) :: hpN B n F G)=some o):q<2000030∧o.okB 2000030=true:=by
 by_cases e:q=2000020
 ·subst e;rw [zi] at h;cases h;exact ⟨by omega,hb⟩
 ·rw [zb e] at h
  obtain ⟨h1,h2⟩:=z8g hB F G hn q o h
  refine ⟨by omega,?_⟩
  exact AO.z0I h2 (by omega)
theorem z5n (l:List Ev) (i j:Int) (hl:l.length≤100000):zq Try.prog 18 [.p (.seq 9 (l.map evC)),.int i,.int j]
  (.tup [.p (.seq 1 (if plcB l i j then befP l else [])),.p (.seq 1 (if plcB l i j then aftP l else [])),.bool (plcB l i j)]):=by
 have he:=edges_ok l hl
 have hlm:(l.map evC).length=l.length:=by simp
 have hno : ∀ s:ASt,s.get 6 = .p (.val nilV)→s.get 7 = .p (.val nilV)→s.get 8 = .p (.val (.bool false))→plcB l i j=false→s.n=76→zy Try.prog Try.f18 (.tup [.p (.seq 1 (if plcB l i j then befP l else [])),.p (.seq 1 (if plcB l i j then aftP l else [])),.bool (plcB l i j)]) .ret s:=fun s h6 h7 h8 hp hn=>by
  rw [hp]
  refine zy.retW (.inr rfl) Try.results18 (s':=⟨[(6,.p (.seq 1 [])),(7,.p (.seq 1 [])),(8,.bool false)],[],76,0⟩) (zk.of' hn.symm ⟨fun p hp=>?_,fun p hp=>(by cases hp),by simp [ASt.okB,AV.okB]⟩) ?_
  ·rcases List.mem_cons.1 hp with rfl|hp
   ·rw [h6];exact AVle.nil 1
   rcases List.mem_cons.1 hp with rfl|hp
   ·rw [h7];exact AVle.nil 1
   rcases List.mem_cons.1 hp with rfl|hp
   ·rw [h8];exact AVle.refl _
   cases hp
  ·simp only [zu,zo,zn,simprocAttr,implies_true,amz,tys,Bool.false_eq_true,if_false]
 cases h5:(qx l).2 with
 | false =>
  have hz:errE l=1:=by simp [errE,h5]
  rw [hz] at he
  generalize z3c l=E at he
  refine zq.of Try.func18 rfl 76 rfl (by decide) (by simp [AV.okB]) ?_
  have hne:((1:Int) != 0)=true:=rfl
  repeat' (first|refine T.zh fun K hK=>?_|refine T.block ?_|(refine T.reg (by kernel_rfl) fun K' hK'=>?_;simp only [bz];(repeat' (first|(with_reducible refine WL.fin ?_;refine hK' _ ?_;clear hK' K')|((with_reducible refine WL.step fun K2 hK2=>?_);simp only [simprocAttr,implies_true,amz,tys,hlm,hne];(repeat' (first|with_reducible (first|(refine hK2 _ ?_;clear hK2 K2)|refine And.intro ?_ ?_|intro hb)|((first|(with_reducible apply zg)|(with_reducible apply zl));case h=>exact CallV.plain (Ent.of Try.func32 (by kernel_rfl) rfl) (he) (by simp [AV.okB]))))))))|refine T.skip ?_|refine T.exit ?_|refine T.zf rfl ?_|refine T.ze rfl ?_|refine T.cond rfl (fun hc=>?_) (fun hc=>?_)|refine T.ret ?_|simp only [za,z8,reduceIte,Nat.reduceEqDiff]|((repeat ((fail_if_success (refine hK _ ?_));clear hK K));refine hK _ ?_;clear hK K))
  all_goals (exact hno _ rfl rfl rfl (by simp [plcB,h5]) rfl)
 | true =>
  have hz:errE l=0:=by simp [errE,h5]
  have hE:z3c l=edU l l.length:=by simp [z3c,h5]
  have hEl:=z9b (l:=l) hl
  have hends : ∀ e ∈ edU l l.length,∃ i j:Nat,i<j∧j<l.length∧e.f=i∧e.t=j:=fun e h=>edU_ends h
  rw [hz] at he
  by_cases hp:plcB l i j=true
  case neg =>
   have hp0:plcB l i j=false:=by simpa using hp
   generalize z3c l=E at he
   cases d1:decide (i<0) <;> cases d2:decide (j≤i) <;> cases d3:decide ((l.length:Int)≤j)
   all_goals (first|(focus (exact absurd (show plcB l i j=true by unfold plcB;rw [h5,d1,d2,d3];rfl) hp))|skip)
   all_goals (refine zq.of Try.func18 rfl 76 rfl (by decide) (by simp [AV.okB]) ?_)
   all_goals (repeat' (first|refine T.zh fun K hK=>?_|refine T.block ?_|(refine T.reg (by kernel_rfl) fun K' hK'=>?_;simp only [bz];(repeat' (first|(with_reducible refine WL.fin ?_;refine hK' _ ?_;clear hK' K')|((with_reducible refine WL.step fun K2 hK2=>?_);simp only [simprocAttr,implies_true,amz,tys,hlm,d1,d2,d3,bne_self_eq_false];(repeat' (first|with_reducible (first|(refine hK2 _ ?_;clear hK2 K2)|refine And.intro ?_ ?_|intro hb)|((first|(with_reducible apply zg)|(with_reducible apply zl));case h=>exact CallV.plain (Ent.of Try.func32 (by kernel_rfl) rfl) (he) (by simp [AV.okB]))))))))|refine T.skip ?_|refine T.exit ?_|refine T.zf rfl ?_|refine T.ze rfl ?_|refine T.cond rfl (fun hc=>?_) (fun hc=>?_)|refine T.ret ?_|simp only [za,z8,reduceIte,Nat.reduceEqDiff]|((repeat ((fail_if_success (refine hK _ ?_));clear hK K));refine hK _ ?_;clear hK K)))
   all_goals (exact hno _ rfl rfl rfl hp0 rfl)
  have hpp:=hp
  simp only [plcB,Bool.and_eq_true,Bool.not_eq_true'] at hpp
  obtain ⟨⟨⟨_,d1⟩,d2⟩,d3⟩:=hpp
  rw [hE] at he hEl
  have hbe:=befM_eq l
  have hae:=aftM_eq l
  obtain ⟨n,hn⟩ : ∃ n,n=l.length:=⟨_,rfl⟩
  rw [← hn] at he hEl hends hbe hae hl d3 hlm
  generalize edU l n=E at he hEl hends hbe hae
  have hml:n≤maxLen:=by unfold maxLen;omega
  have hmb : 24*n≤140737488355328:=by omega
  have hn6:n≤1000000:=by omega
  obtain ⟨B,hB⟩ : ∃ B:Nat,B=1000010:=⟨_,rfl⟩
  rw [hp]
  refine zq.of Try.func18 rfl 76 rfl (by decide) (by simp [AV.okB]) ?_
  repeat' (first|refine T.zh fun K hK=>?_|refine T.block ?_|(refine T.reg (by kernel_rfl) fun K' hK'=>?_;simp only [bz];(repeat' (first|(with_reducible refine WL.fin ?_;refine hK' _ ?_;clear hK' K')|((with_reducible refine WL.step fun K2 hK2=>?_);simp only [simprocAttr,implies_true,amz,tys,hlm,d1,d2,d3,bne_self_eq_false];(repeat' (first|with_reducible (first|(refine hK2 _ ?_;clear hK2 K2)|refine And.intro ?_ ?_|intro hb)|((first|(with_reducible apply zg)|(with_reducible apply zl));case h=>exact CallV.plain (Ent.of Try.func32 (by kernel_rfl) rfl) (he) (by simp [AV.okB]))))))))|refine T.skip ?_|refine T.exit ?_|refine T.zf rfl ?_|refine T.ze rfl ?_|refine T.cond rfl (fun hc=>?_) (fun hc=>?_)|refine T.ret ?_|simp only [za,z8,reduceIte,Nat.reduceEqDiff]|((repeat ((fail_if_success (refine hK _ ?_));clear hK K));refine hK _ ?_;clear hK K))
  refine T.any (by kernel_rfl) (by kernel_rfl) fun K' hK'=>?_
  suffices hmid : ∀ s',zk s' ⟨[(0,.p (.seq 9 (l.map evC))),(6,.own 0),(7,.own 1),(9,.p (.seq 3 (rowE E)))],[(0,.row 24 1 (List.replicate n [PV.val nilV])),(1,.row 24 1 (List.replicate n [PV.val nilV]))],76,2⟩→K' s' by
   clear hK' hK
   repeat' (first|(refine TA.stop (by kernel_rfl) ?_)|(refine TA.z3T (by kernel_rfl) fun J hJ=>?_;simp only [Nat.reduceAdd,allL])|exact trivial|(with_reducible refine And.intro ?_ ?_)|(focus (refine Or.inl ?_;decide +kernel))|(refine Or.inr ⟨by trivial,by simp [z4W],?_⟩;simp only [simprocAttr,implies_true,amz,tys,hlm,hml,hmb,Int.toNat_natCast];(repeat' (first|(with_reducible refine And.intro ?_ ?_)|(with_reducible refine hJ _ _ ?_;clear hJ J)))))
   all_goals (first|(focus (refine hmid _ ?_;refine zk.of' rfl ?_;simp only [wks,reduceIte,Nat.reduceEqDiff,ASt.okB,AV.okB,Nat.reduceLT,implies_true,];done))|(focus (refine hmid _ ((zk.upN _ 3 (by simp)).trans ((zk.ren _ 0 2).trans ((zk.ren _ 1 0).trans ((zk.ren _ 2 1).trans ?_))));simp only [ASt.ren,AV.qK,AV.z0p,AV.z06,AV.z0C,AV.z1I,AV.z0F,AV.z0a,AV.z08,AV.z1p,AV.z0E,AV.z0G,AO.z0O,AO.z0c,AO.z10,AO.z0W,List.map_cons,List.map_nil,List.filter_cons,List.filter_nil,zx,qf,reduceIte,Nat.reduceEqDiff,Nat.reduceLT,Nat.reduceBneDiff,bne_self_eq_false,Bool.and_true,Bool.and_false,Bool.true_and,Bool.false_and,Bool.and_self,Bool.false_eq_true,ne_eq,not_false_eq_true,not_true_eq_false,and_self,and_true,true_and,and_false];refine zk.of' rfl ?_;simp only [wks,reduceIte,Nat.reduceEqDiff,ASt.okB,AV.okB,Nat.reduceLT,implies_true,];done)))
  intro s' hw
  refine hK' s' ?_
  refine hK s' ?_
  refine T.weak hw ?_
  clear hw hK' K' s' hK K
  refine T.weak (zk.twoN B hB _ n 76 hn6) ?_
  have hf0:bfE (E.take 0)=fun _ => []:=by funext q;simp [bfE]
  have hg0:afE (E.take 0)=fun _ => []:=by funext q;simp [afE]
  have hrl:=z7j E
  repeat' (first|refine T.zh fun K hK=>?_|refine T.block ?_|(refine T.reg (by kernel_rfl) fun K' hK'=>?_;simp only [bz];(repeat' (first|(with_reducible refine WL.fin ?_;refine hK' _ ?_;clear hK' K')|((with_reducible refine WL.step fun K2 hK2=>?_);simp only [simprocAttr,implies_true,amz,tys,hrl];(repeat' with_reducible (first|(refine hK2 _ ?_;clear hK2 K2)|refine And.intro ?_ ?_|intro hb))))))|refine T.skip ?_|refine T.exit ?_|refine T.zf rfl ?_|refine T.ze rfl ?_|refine T.cond rfl (fun hc=>?_) (fun hc=>?_)|refine T.ret ?_|simp only [za,z8,reduceIte,Nat.reduceEqDiff]|((repeat ((fail_if_success (refine hK _ ?_));clear hK K));refine hK _ ?_;clear hK K))
  refine T.qc (fun k:Nat=>⟨[(0,.p (.seq 9 (l.map evC))),(6,.own 0),(7,.own 1),(41,.p (.seq 3 (rowE E))),(42,.int E.length),(43,.int k)],hpN B n (bfE (E.take k)) (afE (E.take k)),76,2000020⟩) (fun k=>k≤E.length) (fun k=>E.length-k) 0 (Nat.zero_le _) ?_ ?_
  ·refine zk.frm _ _ _ _ (fun t=>?_) (by simp only [wks,reduceIte,Nat.reduceEqDiff,implies_true,and_self,Int.natCast_zero]) (by simp only [wks,AV.okB,Nat.reduceLT,decide_true,List.all_cons,List.all_nil,Bool.and_self,Int.natCast_zero]) ?_
   ·rw [hf0,hg0]
   ·exact fun t o h=>z8g hB _ _ hn6 t o h
  intro k hk KL hKL
  by_cases hkn:k<E.length
  ·have hd:decide ((k:Int)<(E.length:Int))=true:=by simpa using hkn
   have hk0:(0:Int)≤(k:Int):=by omega
   obtain ⟨e,hek⟩:=zT hkn
   obtain ⟨f,t,hft,htn,hef,het⟩:=hends e (List.mem_of_getElem? hek)
   have m1:=rowE_at hek
   have hed:edC e = [.val (.int .i64 (f:Int)),.val (.int .i64 (t:Int)),.val (.int .i64 e.k)]:=by rw [edC,hef,het]
   rw [hed] at m1
   have hbs:=bfE_step hek hef het
   have has:=afE_step hek hef het
   obtain ⟨F,hF⟩ : ∃ F,F=bfE (E.take k):=⟨_,rfl⟩
   obtain ⟨G,hG⟩ : ∃ G,G=afE (E.take k):=⟨_,rfl⟩
   rw [← hF] at hbs ⊢
   rw [← hG] at has ⊢
   have hFl:(F t).length≤10000000000:=by rw [hF];exact Nat.le_trans (bfE_len _ _) (Nat.le_trans (List.length_take_le' _ _) hEl)
   have hGl:(G f).length≤10000000000:=by rw [hG];exact Nat.le_trans (afE_len _ _) (Nat.le_trans (List.length_take_le' _ _) hEl)
   have ht0:(0:Int)≤(t:Int):=by omega
   have hf0:(0:Int)≤(f:Int):=by omega
   have o1:=z0L n 10 t htn
   have o2:=qL n 10
   have o3:=z0L n B f (by omega)
   have o4:=qL n B
   have hz0:(t+10=0)=False:=by simp
   have hz1:(t+10=1)=False:=by simp
   have hz2:(t+10=2000020)=False:=by simp;omega
   have hz3:(t != 2000010)=true:=by simp;omega
   have hz4:(t=2000010)=False:=by simp;omega
   have hfn:f<n:=by omega
   have a1:=z3s F htn
   have a2:=z3s G hfn
   have hm3 : 1≤maxLen:=by unfold maxLen;omega
   have hb3:(F t).length+1≤maxLen:=by unfold maxLen;omega
   have hb4:((F t).length+1)*8≤140737488355328:=by omega
   have hrf:=qJ (F t)
   have lk1:=hpN_lk (B:=B) (F:=F) (G:=G) htn hn6
   have hsx:=fun o=>z3E o (hpN_hi hB (F:=F) (G:=G) (t := 2000020) (by omega) hn6)
   have hs0 : ∀ o,List.map (fun p:Nat × AO=>if p.1=0 then (0,o) else p) (List.filter (fun p=>p.1 != t+10) (mat 3 1 10 (matI n F)++mat 3 1 B (matI n G)))=List.filter (fun p=>p.1 != t+10) (mat 3 1 10 (matI n F)++mat 3 1 B (matI n G)):=fun o=>z3E o (by rw [z0u,if_neg (by omega),lkH hB _ _ hn6,if_neg (by omega),if_neg (by omega)])
   simp only [hpN]
   obtain ⟨H,hH⟩ : ∃ H,H=mat 3 1 10 (matI n F)++mat 3 1 B (matI n G):=⟨_,rfl⟩
   rw [← hH] at lk1 hsx hs0 ⊢
   repeat' (first|refine T.zh fun K hK=>?_|refine T.block ?_|(refine T.reg (by kernel_rfl) fun K' hK'=>?_;simp only [bz];(repeat' (first|(with_reducible refine WL.fin ?_;refine hK' _ ?_;clear hK' K')|((with_reducible refine WL.step fun K2 hK2=>?_);simp only [simprocAttr,implies_true,amz,tys,hd,hk0,Int.toNat_natCast,m1,hsx];(repeat' with_reducible (first|(refine hK2 _ ?_;clear hK2 K2)|refine And.intro ?_ ?_|intro hb))))))|refine T.skip ?_|refine T.exit ?_|refine T.zf rfl ?_|refine T.ze rfl ?_|refine T.cond rfl (fun hc=>?_) (fun hc=>?_)|refine T.ret ?_|simp only [za,z8,reduceIte,Nat.reduceEqDiff]|((repeat ((fail_if_success (refine hK _ ?_));clear hK K));refine hK _ ?_;clear hK K))
   refine T.commT 13 [some (0,1),some (0,1),some (0,1),some (0,1),some (0,1),some (0,1),some (0,1),some (0,0),some (0,1),some (0,1),some (0,0),none,some (1,1)] (by kernel_rfl) (by kernel_rfl) fun K' hK'=>?_;simp only [List.map_cons,List.map_nil,List.take_succ_cons,List.take_zero,List.zip_cons_cons,List.zip_nil_left,List.drop_succ_cons,List.drop_zero] at hK' ⊢;(repeat' (first|(with_reducible refine WC.fin ?_;refine hK' _ ?_;clear hK' K')|((first|(with_reducible refine WC.z0P fun K2 hK2=>?_)|(with_reducible refine WC.stepW fun K2 hK2=>?_));simp only [simprocAttr,implies_true,amz,WCg,WCv,WOw,allP,dav,Chk,List.filter_cons,List.filter_nil,bne_self_eq_false,Nat.reduceBneDiff,Bool.false_eq_true,tys,ht0,Int.toNat_natCast,htn,o1,o2,hz0,hz1,hz2,hz3,hz4,lk1,hm3,hb3,hb4,hrf,hs0,List.length_cons,List.length_nil,Nat.zero_add];(repeat' (first|(with_reducible refine hK2 _ _ ?_;clear hK2 K2)|with_reducible (first|(refine hK2 _ ?_;clear hK2 K2)|refine And.intro ?_ ?_|intro hb)|(with_reducible rfl)|((with_reducible show @Eq ASt _ _);rfl) )))));all_goals ((repeat' (first|(with_reducible refine WLW.fin ?_)|((with_reducible refine WLW.step fun K2 hK2=>?_);simp only [simprocAttr,implies_true,amz,tys,ht0,Int.toNat_natCast,htn,o1,o2,hz0,hz1,hz2,hz3,hz4,lk1,hm3,hb3,hb4,hrf,hs0,List.length_cons,List.length_nil,Nat.zero_add];(repeat' with_reducible (first|(refine hK2 _ ?_;clear hK2 K2)|refine And.intro ?_ ?_|intro hb)))));all_goals ((try simp only [za,z8,reduceIte,Nat.reduceEqDiff]);(try ((repeat ((fail_if_success (refine hK _ ?_));clear hK K));refine hK _ ?_;clear hK K))))
   obtain ⟨bx,hbx⟩ : ∃ bx,bx=AO.boxP none 60 [.p (.val (.int .i64 (f:Int))),.p (.val (.int .i64 (t:Int))),.p (.val (.int .i64 e.k))]:=⟨_,rfl⟩
   have hbr : ∀ a b,bx.ren a b=bx:=fun a b=>by rw [hbx,AO.z0O];simp [AV.z1I]
   have hbk:bx.okB 2000030=true:=by rw [hbx,AO.qg];simp [AV.okB]
   rw [← hbx,hH]
   refine T.weak (zk.renTo _ 2000021 (t+10) (.row 3 1 (qw (F t) ++ [[.val (.int .i64 (f:Int))]])) zi (by simp only;omega) (by omega) [(0,.p (.seq 9 (l.map evC))),(6,.own 0),(7,.own 1),(12,.ptr 2000020 0),(41,.p (.seq 3 (rowE E))),(42,.int E.length),(43,.int k)] ((2000020,bx) :: hpN B n (upL F t (F t ++ [f])) G) 2000030 ?_ (by simp [AV.okB]) (fun q=>?_) (fun q o h=>hpB_ok hB _ _ hn6 hbk q o h)) ?_
   ·simp only [wks,AV.qK,AV.z1I,AV.z0p,reduceIte,Nat.reduceEqDiff,implies_true,and_self,hz0,hz1,hz2,hz4]
   ·rw [AO.z0c,z0S]
    exact hpN_st1 hB htn hn6 (by omega) (hbr _ _) q
   clear hsx hs0 lk1 hH H
   obtain ⟨F2,hF2⟩ : ∃ F2,F2=upL F t (F t ++ [f]):=⟨_,rfl⟩
   rw [← hF2] at hbs ⊢
   have hy0:(f+B=0)=False:=by simp;omega
   have hy1:(f+B=1)=False:=by simp;omega
   have hy2:(f+B=2000020)=False:=by simp;omega
   have hy3:(2000020 != f+B)=true:=by simp;omega
   have hy5:(0 != f+B)=true:=by simp;omega
   have hy7:(0=f+B)=False:=by simp;omega
   have hy8:(1=f+B)=False:=by simp;omega
   have hy6:(1 != f+B)=true:=by simp;omega
   have hc3:(G f).length+1≤maxLen:=by unfold maxLen;omega
   have hc4:((G f).length+1)*8≤140737488355328:=by omega
   have hrg:=qJ (G f)
   have lk2:=hpN_lk2 hB (F:=F2) (G:=G) hfn hn6
   have hs1 : ∀ o,List.map (fun p:Nat × AO=>if p.1=1 then (1,o) else p) (List.filter (fun p=>p.1 != f+B) (mat 3 1 10 (matI n F2)++mat 3 1 B (matI n G)))=List.filter (fun p=>p.1 != f+B) (mat 3 1 10 (matI n F2)++mat 3 1 B (matI n G)):=fun o=>z3E o (by rw [z0u,if_neg (by omega),lkH hB _ _ hn6,if_neg (by omega),if_neg (by omega)])
   simp only [hpN]
   obtain ⟨H,hH⟩ : ∃ H,H=mat 3 1 10 (matI n F2)++mat 3 1 B (matI n G):=⟨_,rfl⟩
   rw [← hH] at lk2 hs1 ⊢
   rw [hbx]
   refine T.commT 13 [some (0,1),some (0,1),some (0,1),some (0,1),some (0,1),some (0,1),some (0,1),some (0,0),some (0,1),some (0,1),some (0,0),none,some (1,1)] (by kernel_rfl) (by kernel_rfl) fun K' hK'=>?_;simp only [List.map_cons,List.map_nil,List.take_succ_cons,List.take_zero,List.zip_cons_cons,List.zip_nil_left,List.drop_succ_cons,List.drop_zero] at hK' ⊢;(repeat' (first|(with_reducible refine WC.fin ?_;refine hK' _ ?_;clear hK' K')|((first|(with_reducible refine WC.z0P fun K2 hK2=>?_)|(with_reducible refine WC.stepW fun K2 hK2=>?_));simp only [simprocAttr,implies_true,amz,WCg,WCv,WOw,allP,dav,Chk,List.filter_cons,List.filter_nil,bne_self_eq_false,Nat.reduceBneDiff,Bool.false_eq_true,tys,hf0,Int.toNat_natCast,hfn,o3,o4,hy0,hy1,hy2,hy3,hy5,hy6,lk2,hm3,hc3,hc4,hrg,hs1,List.length_cons,List.length_nil,Nat.zero_add];(repeat' (first|(with_reducible refine hK2 _ _ ?_;clear hK2 K2)|with_reducible (first|(refine hK2 _ ?_;clear hK2 K2)|refine And.intro ?_ ?_|intro hb)|(with_reducible rfl)|((with_reducible show @Eq ASt _ _);rfl) )))));all_goals ((repeat' (first|(with_reducible refine WLW.fin ?_)|((with_reducible refine WLW.step fun K2 hK2=>?_);simp only [simprocAttr,implies_true,amz,tys,hf0,Int.toNat_natCast,hfn,o3,o4,hy0,hy1,hy2,hy3,hy5,hy6,lk2,hm3,hc3,hc4,hrg,hs1,List.length_cons,List.length_nil,Nat.zero_add];(repeat' with_reducible (first|(refine hK2 _ ?_;clear hK2 K2)|refine And.intro ?_ ?_|intro hb)))));all_goals ((try simp only [za,z8,reduceIte,Nat.reduceEqDiff]);(try ((repeat ((fail_if_success (refine hK _ ?_));clear hK K));refine hK _ ?_;clear hK K))))
   rw [← hbx,hH]
   refine T.weak (zk.renTo _ 2000030 (f+B) (.row 3 1 (qw (G f) ++ [[.val (.int .i64 (t:Int))]])) zi (by simp only;omega) (by omega) [(0,.p (.seq 9 (l.map evC))),(6,.own 0),(7,.own 1),(41,.p (.seq 3 (rowE E))),(42,.int E.length),(43,.int k)] ((2000020,bx) :: hpN B n F2 (upL G f (G f ++ [t]))) 2000030 ?_ (by simp [AV.okB]) (fun q=>?_) (fun q o h=>hpB_ok hB _ _ hn6 hbk q o h)) ?_
   ·simp only [wks,AV.qK,AV.z1I,AV.z0p,reduceIte,Nat.reduceEqDiff,implies_true,and_self,hy0,hy1,hy2,hy7,hy8]
   ·rw [AO.z0c,z0S]
    exact hpN_st2 hB hfn hn6 (by omega) (hbr _ _) q
   repeat' (first|refine T.zh fun K hK=>?_|refine T.block ?_|(refine T.reg (by kernel_rfl) fun K' hK'=>?_;simp only [bz];(repeat' (first|(with_reducible refine WL.fin ?_;refine hK' _ ?_;clear hK' K')|((with_reducible refine WL.step fun K2 hK2=>?_);simp only [simprocAttr,implies_true,amz,tys];(repeat' with_reducible (first|(refine hK2 _ ?_;clear hK2 K2)|refine And.intro ?_ ?_|intro hb))))))|refine T.skip ?_|refine T.exit ?_|refine T.zf rfl ?_|refine T.ze rfl ?_|refine T.cond rfl (fun hc=>?_) (fun hc=>?_)|refine T.ret ?_|simp only [za,z8,reduceIte,Nat.reduceEqDiff]|((repeat ((fail_if_success (refine hK _ ?_));clear hK K));refine hK _ ?_;clear hK K))
   refine hKL _ (k+1) ?_ hkn (by omega)
   refine zk.subs _ _ _ _ (fun q o ho=>?_) (by simp only [wks,reduceIte,Nat.reduceEqDiff,implies_true,and_self,zm (show k<1152921504606846976 by omega)]) (by simp [AV.okB]) (fun q o h=>z8g hB _ _ hn6 q o h)
   rw [hbs,has] at ho
   exact (zb (by have:=(z8g hB _ _ hn6 q o ho).1;omega)).trans ho
  ·have hd:decide ((k:Int)<(E.length:Int))=false:=by simpa using hkn
   have hke:k=E.length:=by omega
   repeat' (first|refine T.zh fun K hK=>?_|refine T.block ?_|(refine T.reg (by kernel_rfl) fun K' hK'=>?_;simp only [bz];(repeat' (first|(with_reducible refine WL.fin ?_;refine hK' _ ?_;clear hK' K')|((with_reducible refine WL.step fun K2 hK2=>?_);simp only [simprocAttr,implies_true,amz,tys,hd];(repeat' with_reducible (first|(refine hK2 _ ?_;clear hK2 K2)|refine And.intro ?_ ?_|intro hb))))))|refine T.skip ?_|refine T.exit ?_|refine T.zf rfl ?_|refine T.ze rfl ?_|refine T.cond rfl (fun hc=>?_) (fun hc=>?_)|refine T.ret ?_|simp only [za,z8,reduceIte,Nat.reduceEqDiff]|((repeat ((fail_if_success (refine hK _ ?_));clear hK K));refine hK _ ?_;clear hK K))
   refine zy.retW (.inr rfl) Try.results18 (zk.trans (s2:=⟨[(6,.own 0),(7,.own 1),(8,.bool true)],hpN B n (befL l) (aftL l),76,2000020⟩) ?_ (zk.matN B hB n _ _ 76 _ hn6)) ?_
   ·refine zk.frm _ _ _ _ (fun t=>?_) (by simp only [wks,reduceIte,Nat.reduceEqDiff,implies_true,and_self,]) (by simp only [wks,AV.okB,Nat.reduceLT,decide_true,List.all_cons,List.all_nil,Bool.and_self,]) ?_
    ·rw [hke,List.take_length,hpN,hpN,hbe,hae]
    ·exact fun t o h=>z8g hB _ _ hn6 t o h
   ·simp only [zu,zo,zn,simprocAttr,implies_true,amz,tys,befP,aftP,hn,if_true]
def ixP (p:Nat→Bool):List Nat→Nat→Int
 | [],_ => -1
 | y :: r,k=>if p y then (k:Int) else ixP p r (k+1)
theorem ixP_of {p:Nat→Bool} : ∀ {r:List Nat} {q x:Nat} (k:Nat),r[q]? = some x→p x=true→(∀ a y,a<q→r[a]? = some y→p y=false)→ixP p r k=((k+q:Nat):Int)
 | [],q,x,k,h,_,_=>by simp at h
 | y :: r,0,x,k,h,hp,_=>by cases h;rw [ixP,if_pos hp];simp
 | y :: r,q+1,x,k,h,hp,ha=>by
  rw [ixP,ha 0 y (by omega) rfl,if_neg (by simp),ixP_of (r:=r) (q:=q) (k+1) (by simpa using h) hp (fun a z h1 h2=>ha (a+1) z (by omega) (by simpa using h2))]
  congr 1;omega
def cloP (f:Nat→Int) (k a:Nat):Bool:=f a==IntKind.i64.wrap (f k-1)
theorem step_ok (bb n a k:Nat) (f:Nat→Int) (ha:a<n) (hk:k<n):MemC Try.prog 21 1 [(0,.boxP (some bb) 3 [.int k])] [.int a,.elt [.seq 1 (rowF n f)] 0,.ptr 0 0]
  (fun hp' r=>hp' = [(0,.boxP (some bb) 3 [.int k])]∧r = .bool (cloP f k a)):=by
 have ha0:(0:Int)≤(a:Int):=by omega
 have hk0:(0:Int)≤(k:Int):=by omega
 refine MemC.of Try.func21 rfl 15 rfl (by decide) ?_;simp only [z0t,frOf]
 repeat' (first|refine T.zh fun K hK=>?_|refine T.block ?_|(refine T.reg (by kernel_rfl) fun K' hK'=>?_;simp only [bz];(repeat' (first|(with_reducible refine WL.fin ?_;refine hK' _ ?_;clear hK' K')|((with_reducible refine WL.step fun K2 hK2=>?_);simp only [simprocAttr,implies_true,amz,tys];(repeat' with_reducible (first|(refine hK2 _ ?_;clear hK2 K2)|refine And.intro ?_ ?_|intro hb))))))|refine T.skip ?_|refine T.exit ?_|refine T.zf rfl ?_|refine T.ze rfl ?_|refine T.cond rfl (fun hc=>?_) (fun hc=>?_)|refine T.ret ?_|simp only [za,z8,reduceIte,Nat.reduceEqDiff]|((repeat ((fail_if_success (refine hK _ ?_));clear hK K));refine hK _ ?_;clear hK K))
 refine T.drw 11 (by kernel_rfl) (by kernel_rfl) fun K' hK'=>?_;simp only [List.map_cons,List.map_nil];(repeat' (first|(with_reducible refine WL.fin ?_;refine hK' _ ?_;clear hK' K')|(with_reducible refine WD.fin ?_)|((with_reducible first|refine WL.step fun K2 hK2=>?_|refine WD.step fun K2 hK2=>?_);simp only [simprocAttr,implies_true,amz,tys,ha0,hk0,Int.toNat_natCast,z0h f ha,z0h f hk,qB];(repeat' with_reducible (first|(refine hK2 _ ?_;clear hK2 K2)|refine And.intro ?_ ?_|intro hb)))));all_goals ((try simp only [za,z8,reduceIte,Nat.reduceEqDiff]);(try ((repeat ((fail_if_success (refine hK _ ?_));clear hK K));refine hK _ ?_;clear hK K)))
 repeat' (first|refine T.zh fun K hK=>?_|refine T.block ?_|(refine T.reg (by kernel_rfl) fun K' hK'=>?_;simp only [bz];(repeat' (first|(with_reducible refine WL.fin ?_;refine hK' _ ?_;clear hK' K')|((with_reducible refine WL.step fun K2 hK2=>?_);simp only [simprocAttr,implies_true,amz,tys];(repeat' with_reducible (first|(refine hK2 _ ?_;clear hK2 K2)|refine And.intro ?_ ?_|intro hb))))))|refine T.skip ?_|refine T.exit ?_|refine T.zf rfl ?_|refine T.ze rfl ?_|refine T.cond rfl (fun hc=>?_) (fun hc=>?_)|refine T.ret ?_|simp only [za,z8,reduceIte,Nat.reduceEqDiff]|((repeat ((fail_if_success (refine hK _ ?_));clear hK K));refine hK _ ?_;clear hK K))
 all_goals (refine FinM.ret (s':=⟨[(4,.bool (cloP f k a))],[(0,.boxP (some bb) 3 [.int k])],15,1⟩) (r := .bool (cloP f k a)) (.inr rfl) Try.results21 (by refine zk.of' rfl ?_;simp only [wks,reduceIte,Nat.reduceEqDiff,ASt.okB,AV.okB,Nat.reduceLT,implies_true,cloP]) rfl ?_ ?_;(focus (simp only [zu,zo,zn,simprocAttr,implies_true,amz,tys,];done)))
 all_goals exact ⟨rfl,rfl⟩
theorem indexF_ok (bb n k:Nat) (f:Nat→Int) (r:List Nat) (hr : ∀ a ∈ r,a<n) (hk:k<n) (hl:r.length≤1000000):MemC Try.prog 20 1 [(0,.boxP (some bb) 3 [.int k])] [.p (.seq 1 (qw r)),.fn (.func 21) [.elt [.seq 1 (rowF n f)] 0,.ptr 0 0]]
  (fun hp' x=>hp' = [(0,.boxP (some bb) 3 [.int k])]∧x = .int (ixP (cloP f k) r 0)):=by
 have hrl:=qJ r
 have hst:=fun a (h:a<n)=>step_ok bb n a k f h hk
 refine MemC.of Try.func20 rfl 19 rfl (by decide) ?_;simp only [z0t,frOf]
 repeat' (first|refine T.zh fun K hK=>?_|refine T.block ?_|(refine T.reg (by kernel_rfl) fun K' hK'=>?_;simp only [bz];(repeat' (first|(with_reducible refine WL.fin ?_;refine hK' _ ?_;clear hK' K')|((with_reducible refine WL.step fun K2 hK2=>?_);simp only [simprocAttr,implies_true,amz,tys,hrl];(repeat' with_reducible (first|(refine hK2 _ ?_;clear hK2 K2)|refine And.intro ?_ ?_|intro hb))))))|refine T.skip ?_|refine T.exit ?_|refine T.zf rfl ?_|refine T.ze rfl ?_|refine T.cond rfl (fun hc=>?_) (fun hc=>?_)|refine T.ret ?_|simp only [za,z8,reduceIte,Nat.reduceEqDiff]|((repeat ((fail_if_success (refine hK _ ?_));clear hK K));refine hK _ ?_;clear hK K))
 refine T.qc (fun q:Nat=>⟨[(0,.p (.seq 1 (qw r))),(1,.fn (.func 21) [.elt [.seq 1 (rowF n f)] 0,.ptr 0 0]),(6,.p (.seq 1 (qw r))),(7,.int r.length),(8,.int q)],[(0,.boxP (some bb) 3 [.int k])],19,1⟩) (fun q=>q≤r.length∧ixP (cloP f k) r 0=ixP (cloP f k) (r.drop q) q) (fun q=>r.length-q) 0 ⟨Nat.zero_le _,rfl⟩ (by refine zk.of' rfl ?_;simp only [wks,reduceIte,Nat.reduceEqDiff,ASt.okB,AV.okB,Nat.reduceLT,implies_true,Int.natCast_zero,AV.qo,List.all_cons,List.all_nil]) ?_
 rintro q ⟨hq,hix⟩ KL hKL
 by_cases hqn:q<r.length
 ·have hd:decide ((q:Int)<(r.length:Int))=true:=by simpa using hqn
  have hq0:(0:Int)≤(q:Int):=by omega
  obtain ⟨y,hy⟩:=zT hqn
  have m1:=z3v hy
  have hst:=hst y (hr y (List.mem_of_getElem? hy))
  rw [drop_at hy,ixP] at hix
  cases hc:cloP f k y with
  | true =>
   rw [hc] at hst
   rw [hc,if_pos rfl] at hix
   repeat' (first|refine T.zh fun K hK=>?_|refine T.block ?_|(refine T.reg (by kernel_rfl) fun K' hK'=>?_;simp only [bz];(repeat' (first|(with_reducible refine WL.fin ?_;refine hK' _ ?_;clear hK' K')|((with_reducible refine WL.step fun K2 hK2=>?_);simp only [simprocAttr,implies_true,amz,tys,hd,hq0,Int.toNat_natCast,m1];(repeat' (first|with_reducible (first|(refine hK2 _ ?_;clear hK2 K2)|refine And.intro ?_ ?_|intro hb)|((with_reducible refine qp 1 _ _ [0] (Ent.of Try.func21 (by kernel_rfl) rfl) (hst) ?_ ?_ ?_);(focus ((refine ⟨Nat.le_of_ble_eq_true rfl,?_,?_⟩ <;> simp only [List.mem_cons,List.not_mem_nil,or_false,forall_eq_or_imp,forall_eq,zx,qf,reduceIte,Nat.reduceEqDiff,AO.qg,AO.qI,AO.qG,AO.qH,AV.okB,AV.qa,AV.qo,AV.qy,List.all_cons,List.all_nil,Bool.and_true,Bool.and_self,Nat.reduceLT,decide_true,true_and,and_true,Option.isSome_some,true_implies,false_implies,implies_true,and_self,Nat.lt_irrefl,Option.some.injEq,]);done));(focus (simp [AV.okB];done));rintro hp' r ⟨rfl,rfl⟩;refine ⟨by simp [Kept,zx,AO.handle],?_⟩;simp only [ASt.qU,AV.zU,AV.zS,AV.zM,AV.zW,AV.ql,AV.zY,AV.zJ,AV.zL,AV.qh,AV.zZ,AV.zX,AO.keep,List.map_cons,List.map_nil,List.filter_cons,List.filter_nil,Nat.reduceLeDiff,decide_true,decide_false,reduceIte,Bool.false_eq_true,List.cons_append,List.nil_append,List.mem_cons,List.not_mem_nil,or_false,false_or,or_true,true_or,Nat.reduceEqDiff,zH,qm,Nat.le_refl,])))))))|refine T.skip ?_|refine T.exit ?_|refine T.zf rfl ?_|refine T.ze rfl ?_|refine T.cond rfl (fun hc=>?_) (fun hc=>?_)|refine T.ret ?_|simp only [za,z8,reduceIte,Nat.reduceEqDiff]|((repeat ((fail_if_success (refine hK _ ?_));clear hK K));refine hK _ ?_;clear hK K))
   all_goals (refine FinM.ret (s':=⟨[(4,.int q)],[(0,.boxP (some bb) 3 [.int k])],19,1⟩) (r := .int q) (.inr rfl) Try.results20 (by refine zk.of' rfl ?_;simp only [wks,reduceIte,Nat.reduceEqDiff,ASt.okB,AV.okB,Nat.reduceLT,implies_true,]) rfl ?_ ?_;(focus (simp only [zu,zo,zn,simprocAttr,implies_true,amz,tys,];done)))
   all_goals exact ⟨rfl,by rw [hix]⟩
  | false =>
   rw [hc] at hst
   rw [hc,if_neg (by simp)] at hix
   repeat' (first|refine T.zh fun K hK=>?_|refine T.block ?_|(refine T.reg (by kernel_rfl) fun K' hK'=>?_;simp only [bz];(repeat' (first|(with_reducible refine WL.fin ?_;refine hK' _ ?_;clear hK' K')|((with_reducible refine WL.step fun K2 hK2=>?_);simp only [simprocAttr,implies_true,amz,tys,hd,hq0,Int.toNat_natCast,m1];(repeat' (first|with_reducible (first|(refine hK2 _ ?_;clear hK2 K2)|refine And.intro ?_ ?_|intro hb)|((with_reducible refine qp 1 _ _ [0] (Ent.of Try.func21 (by kernel_rfl) rfl) (hst) ?_ ?_ ?_);(focus ((refine ⟨Nat.le_of_ble_eq_true rfl,?_,?_⟩ <;> simp only [List.mem_cons,List.not_mem_nil,or_false,forall_eq_or_imp,forall_eq,zx,qf,reduceIte,Nat.reduceEqDiff,AO.qg,AO.qI,AO.qG,AO.qH,AV.okB,AV.qa,AV.qo,AV.qy,List.all_cons,List.all_nil,Bool.and_true,Bool.and_self,Nat.reduceLT,decide_true,true_and,and_true,Option.isSome_some,true_implies,false_implies,implies_true,and_self,Nat.lt_irrefl,Option.some.injEq,]);done));(focus (simp [AV.okB];done));rintro hp' r ⟨rfl,rfl⟩;refine ⟨by simp [Kept,zx,AO.handle],?_⟩;simp only [ASt.qU,AV.zU,AV.zS,AV.zM,AV.zW,AV.ql,AV.zY,AV.zJ,AV.zL,AV.qh,AV.zZ,AV.zX,AO.keep,List.map_cons,List.map_nil,List.filter_cons,List.filter_nil,Nat.reduceLeDiff,decide_true,decide_false,reduceIte,Bool.false_eq_true,List.cons_append,List.nil_append,List.mem_cons,List.not_mem_nil,or_false,false_or,or_true,true_or,Nat.reduceEqDiff,zH,qm,Nat.le_refl,])))))))|refine T.skip ?_|refine T.exit ?_|refine T.zf rfl ?_|refine T.ze rfl ?_|refine T.cond rfl (fun hc=>?_) (fun hc=>?_)|refine T.ret ?_|simp only [za,z8,reduceIte,Nat.reduceEqDiff]|((repeat ((fail_if_success (refine hK _ ?_));clear hK K));refine hK _ ?_;clear hK K))
   refine hKL _ (q+1) ?_ ⟨hqn,hix⟩ (by omega)
   refine zk.of' rfl ?_;simp only [wks,reduceIte,Nat.reduceEqDiff,ASt.okB,AV.okB,Nat.reduceLT,implies_true,zm (show q<1152921504606846976 by omega),AV.qo,List.all_cons,List.all_nil]
 ·have hd:decide ((q:Int)<(r.length:Int))=false:=by simpa using hqn
  rw [List.drop_eq_nil_of_le (by omega),ixP] at hix
  repeat' (first|refine T.zh fun K hK=>?_|refine T.block ?_|(refine T.reg (by kernel_rfl) fun K' hK'=>?_;simp only [bz];(repeat' (first|(with_reducible refine WL.fin ?_;refine hK' _ ?_;clear hK' K')|((with_reducible refine WL.step fun K2 hK2=>?_);simp only [simprocAttr,implies_true,amz,tys,hd];(repeat' with_reducible (first|(refine hK2 _ ?_;clear hK2 K2)|refine And.intro ?_ ?_|intro hb))))))|refine T.skip ?_|refine T.exit ?_|refine T.zf rfl ?_|refine T.ze rfl ?_|refine T.cond rfl (fun hc=>?_) (fun hc=>?_)|refine T.ret ?_|simp only [za,z8,reduceIte,Nat.reduceEqDiff]|((repeat ((fail_if_success (refine hK _ ?_));clear hK K));refine hK _ ?_;clear hK K))
  all_goals (refine FinM.ret (s':=⟨[(4,.int (-1))],[(0,.boxP (some bb) 3 [.int k])],19,1⟩) (r := .int (-1)) (.inr rfl) Try.results20 (by refine zk.of' rfl ?_;simp only [wks,reduceIte,Nat.reduceEqDiff,ASt.okB,AV.okB,Nat.reduceLT,implies_true,]) rfl ?_ ?_;(focus (simp only [zu,zo,zn,simprocAttr,implies_true,amz,tys,];done)))
  all_goals exact ⟨rfl,by rw [hix]⟩
theorem ix_next {l:List Ev} {i j k:Nat} {g:Nat→Nat} (h:BfR l i j g) (hk:g k=zO l j k) (hi:zO l j k≤g i) (h2 : 2≤zO l j k) (hj:j<l.length) (hl:l.length≤100000) : ∃ q:Nat,ixP (cloP (dsF g) k) (aftL l k) 0=(q:Int)∧(aftL l k)[q]? = some (nxtC l j k):=by
 have hb:=z2F (l:=l) (j:=j) (d:=j-k) (k:=k) (Nat.le_refl _) (Nat.le_of_lt (Nat.lt_of_lt_of_le (z5U h2) (z6I h2)))
 have hmem:nxtC l j k ∈ aftL l k:=by
  have h3:=z5U h2
  have h4:=z6I h2
  have h5:=z7w h2
  simp only [aftL,rgF,List.mem_filter,List.mem_range,Bool.and_eq_true,decide_eq_true_eq]
  exact ⟨by omega,h3,h5⟩
 obtain ⟨q,hq⟩:=List.mem_iff_getElem?.1 hmem
 have hpw:(aftL l k).Pairwise (· < ·):=z8w _ _
 have hstep : ∀ a,k<a→qi l k a=true→cloP (dsF g) k a=folB l j k a:=fun a h3 h4=>by
  have h5:=h.fol hk hi h2 h3 h4
  have hw:IntKind.i64.wrap (dsF g k-1)=dsF g k-1:=by
   simp only [dsF]
   exact z4c (by omega) (by omega)
  unfold cloP
  rw [hw,Bool.eq_iff_iff,beq_iff_eq,← h5]
  simp only [dsF]
  omega
 refine ⟨q,?_,hq⟩
 rw [ixP_of (q:=q) (x:=nxtC l j k) 0 hq ?_ ?_,Nat.zero_add]
 ·rw [hstep _ (z5U h2) (z7w h2)];exact (z3H h2).1
 ·intro a y ha hy
  have hm:=List.mem_of_getElem? hy
  simp only [aftL,rgF,List.mem_filter,List.mem_range,Bool.and_eq_true,decide_eq_true_eq] at hm
  rw [hstep y hm.2.1 hm.2.2]
  refine (z3H h2).2 y ?_
  have h7:=List.pairwise_iff_getElem.1 hpw a q (List.getElem?_eq_some_iff.1 hy).1 (List.getElem?_eq_some_iff.1 hq).1 ha
  rw [(List.getElem?_eq_some_iff.1 hy).2,(List.getElem?_eq_some_iff.1 hq).2] at h7
  exact h7
def rsnN (o:Bool) (ev:List Nat):AV := .agg [.p (.val (.bool o)),.p (.seq 1 (qw ev))]
theorem z9A {l:List Ev} {j k:Nat} {out:List Nat} {C:List Nat} (h2 : 2≤zO l j k) (h:out++chT l j (zO l j k-1) k=C):(out ++ [nxtC l j k])++chT l j (zO l j (nxtC l j k)-1) (nxtC l j k)=C:=by
 rw [← h,chT_step h2,List.append_assoc];rfl
theorem z1C (l:List Ev) (i j:Int) (hl:l.length≤100000):zq Try.prog 10 [.p (.seq 9 (l.map evC)),.int i,.int j] (.tup [rsnN (expO l i j) (expE l i j),.int (expX l i j)]):=by
 have hn:=z5n l i j hl
 have hlm:(l.map evC).length=l.length:=by simp
 cases hp:plcB l i j with
 | false =>
  have e1:expO l i j=false:=by simp [expO,hp]
  have e2:expE l i j = []:=by simp [expE,hp]
  have e3:expX l i j=1:=by simp [expX,hp]
  rw [hp] at hn
  simp only [Bool.false_eq_true,if_false] at hn
  rw [e1,e2,e3]
  refine zq.of Try.func10 rfl 80 rfl (by decide) (by simp [AV.okB,rsnN]) ?_
  repeat' (first|refine T.zh fun K hK=>?_|refine T.block ?_|(refine T.reg (by kernel_rfl) fun K' hK'=>?_;simp only [bz];(repeat' (first|(with_reducible refine WL.fin ?_;refine hK' _ ?_;clear hK' K')|((with_reducible refine WL.step fun K2 hK2=>?_);simp only [simprocAttr,implies_true,amz,tys,hlm,Bool.not_false];(repeat' (first|with_reducible (first|(refine hK2 _ ?_;clear hK2 K2)|refine And.intro ?_ ?_|intro hb)|((first|(with_reducible apply zg)|(with_reducible apply zl));case h=>exact CallV.plain (Ent.of Try.func18 (by kernel_rfl) rfl) (hn) (by simp [AV.okB]))))))))|refine T.skip ?_|refine T.exit ?_|refine T.zf rfl ?_|refine T.ze rfl ?_|refine T.cond rfl (fun hc=>?_) (fun hc=>?_)|refine T.ret ?_|simp only [za,z8,reduceIte,Nat.reduceEqDiff]|((repeat ((fail_if_success (refine hK _ ?_));clear hK K));refine hK _ ?_;clear hK K))
  refine zy.retW (.inr rfl) Try.results10 (s':=⟨[(6,.ptr 0 0),(7,.int 1)],[(0,.boxP none 26 [.bool false,.p (.seq 1 [])])],80,1⟩) (zk.trans (zk.boxle _ 0 none 26 _ [.bool false,.p (.seq 1 [])] rfl rfl fun j x hx=>?_) (by refine zk.of' rfl ?_;simp only [wks,reduceIte,Nat.reduceEqDiff,ASt.okB,AV.okB,Nat.reduceLT,implies_true,zG,List.map_cons,List.map_nil])) ?_
  ·rcases j with _|_|j <;> cases hx <;> first|exact ⟨_,rfl,AVle.refl _⟩|exact ⟨_,rfl,AVle.nil _⟩
  ·simp only [zu,zo,zn,simprocAttr,implies_true,amz,tys,rsnN,qw,List.map_nil]
 | true =>
  have hpp:=z01.1 hp
  obtain ⟨I,rfl⟩ : ∃ I:Nat,i=I:=⟨i.toNat,by have:=hpp.2.1;omega⟩
  obtain ⟨J,rfl⟩ : ∃ J:Nat,j=J:=⟨j.toNat,by have:=hpp.2.1;have:=hpp.2.2.1;omega⟩
  have hIJ:I<J:=by have:=hpp.2.2.1;omega
  have hJl:J<l.length:=by have:=hpp.2.2.2;omega
  have e3:expX l I J=0:=by simp [expX,hp]
  rw [hp] at hn
  simp only [if_true] at hn
  rw [e3]
  have hd:=dist_ok l I J hl hIJ hJl
  have hI0:(0:Int)≤(I:Int):=by omega
  have hIl:I<l.length:=by omega
  refine zq.of Try.func10 rfl 80 rfl (by decide) (by simp [AV.okB,rsnN]) ?_
  repeat' (first|refine T.zh fun K hK=>?_|refine T.block ?_|refine T.skip ?_|refine T.exit ?_|refine T.zf rfl ?_|refine T.ze rfl ?_|refine T.cond rfl (fun hc=>?_) (fun hc=>?_)|refine T.ret ?_|simp only [za,z8,reduceIte,Nat.reduceEqDiff]|((repeat ((fail_if_success (refine hK _ ?_));clear hK K));refine hK _ ?_;clear hK K))
  (refine T.reg (by kernel_rfl) fun K' hK'=>?_;simp only [bz];(repeat' (first|(with_reducible refine WL.fin ?_;refine hK' _ ?_;clear hK' K')|((with_reducible refine WL.step fun K2 hK2=>?_);simp only [simprocAttr,implies_true,amz,tys];(repeat' with_reducible (first|(refine hK2 _ ?_;clear hK2 K2)|refine And.intro ?_ ?_|intro hb)))));all_goals ((try simp only [za,z8,reduceIte,Nat.reduceEqDiff]);(try ((repeat ((fail_if_success (refine hK _ ?_));clear hK K));refine hK _ ?_;clear hK K))))
  repeat' (first|refine T.zh fun K hK=>?_|refine T.block ?_|refine T.skip ?_|refine T.exit ?_|refine T.zf rfl ?_|refine T.ze rfl ?_|refine T.cond rfl (fun hc=>?_) (fun hc=>?_)|refine T.ret ?_|simp only [za,z8,reduceIte,Nat.reduceEqDiff]|((repeat ((fail_if_success (refine hK _ ?_));clear hK K));refine hK _ ?_;clear hK K))
  (refine T.reg (by kernel_rfl) fun K' hK'=>?_;simp only [bz];(repeat' (first|(with_reducible refine WL.fin ?_;refine hK' _ ?_;clear hK' K')|((with_reducible refine WL.step fun K2 hK2=>?_);simp only [simprocAttr,implies_true,amz,tys,hlm];(repeat' (first|with_reducible (first|(refine hK2 _ ?_;clear hK2 K2)|refine And.intro ?_ ?_|intro hb)|((first|(with_reducible apply zg)|(with_reducible apply zl));case h=>exact CallV.plain (Ent.of Try.func18 (by kernel_rfl) rfl) (hn) (by simp [AV.okB])))))));all_goals ((try simp only [za,z8,reduceIte,Nat.reduceEqDiff]);(try ((repeat ((fail_if_success (refine hK _ ?_));clear hK K));refine hK _ ?_;clear hK K))))
  repeat' (first|refine T.zh fun K hK=>?_|refine T.block ?_|refine T.skip ?_|refine T.exit ?_|refine T.zf rfl ?_|refine T.ze rfl ?_|refine T.cond rfl (fun hc=>?_) (fun hc=>?_)|refine T.ret ?_|simp only [za,z8,reduceIte,Nat.reduceEqDiff]|((repeat ((fail_if_success (refine hK _ ?_));clear hK K));refine hK _ ?_;clear hK K))
  (refine T.reg (by kernel_rfl) fun K' hK'=>?_;simp only [bz];(repeat' (first|(with_reducible refine WL.fin ?_;refine hK' _ ?_;clear hK' K')|((with_reducible refine WL.step fun K2 hK2=>?_);simp only [simprocAttr,implies_true,amz,tys,Bool.not_true];(repeat' with_reducible (first|(refine hK2 _ ?_;clear hK2 K2)|refine And.intro ?_ ?_|intro hb)))));all_goals ((try simp only [za,z8,reduceIte,Nat.reduceEqDiff]);(try ((repeat ((fail_if_success (refine hK _ ?_));clear hK K));refine hK _ ?_;clear hK K))))
  repeat' (first|refine T.zh fun K hK=>?_|refine T.block ?_|refine T.skip ?_|refine T.exit ?_|refine T.zf rfl ?_|refine T.ze rfl ?_|refine T.cond rfl (fun hc=>?_) (fun hc=>?_)|refine T.ret ?_|simp only [za,z8,reduceIte,Nat.reduceEqDiff]|((repeat ((fail_if_success (refine hK _ ?_));clear hK K));refine hK _ ?_;clear hK K))
  (refine T.reg (by kernel_rfl) fun K' hK'=>?_;simp only [bz];(repeat' (first|(with_reducible refine WL.fin ?_;refine hK' _ ?_;clear hK' K')|((with_reducible refine WL.step fun K2 hK2=>?_);simp only [simprocAttr,implies_true,amz,tys,hI0];(repeat' (first|with_reducible (first|(refine hK2 _ ?_;clear hK2 K2)|refine And.intro ?_ ?_|intro hb)|((with_reducible refine qp 0 _ _ [] (Ent.of Try.func19 (by kernel_rfl) rfl) (hd) ?_ ?_ ?_);(focus ((refine ⟨Nat.le_of_ble_eq_true rfl,?_,?_⟩ <;> simp only [List.mem_cons,List.not_mem_nil,or_false,forall_eq_or_imp,forall_eq,zx,qf,reduceIte,Nat.reduceEqDiff,AO.qg,AO.qI,AO.qG,AO.qH,AV.okB,AV.qa,AV.qo,AV.qy,List.all_cons,List.all_nil,Bool.and_true,Bool.and_self,Nat.reduceLT,decide_true,true_and,and_true,Option.isSome_some,true_implies,false_implies,implies_true,and_self,Nat.lt_irrefl,Option.some.injEq,]);done));(focus (simp [AV.okB];done));rintro hp' r ⟨rfl,g,hg,rfl⟩;refine ⟨by simp,?_⟩;simp only [ASt.qU,AV.zU,AV.zS,AV.zM,AV.zW,AV.ql,AV.zY,AV.zJ,AV.zL,AV.qh,AV.zZ,AV.zX,AO.keep,List.map_cons,List.map_nil,List.filter_cons,List.filter_nil,Nat.reduceLeDiff,decide_true,decide_false,reduceIte,Bool.false_eq_true,List.cons_append,List.nil_append,List.mem_cons,List.not_mem_nil,or_false,false_or,or_true,true_or,Nat.reduceEqDiff,zH,qm,Nat.le_refl,]))))));all_goals ((try simp only [za,z8,reduceIte,Nat.reduceEqDiff]);(try ((repeat ((fail_if_success (refine hK _ ?_));clear hK K));refine hK _ ?_;clear hK K))))
  repeat' (first|refine T.zh fun K hK=>?_|refine T.block ?_|refine T.skip ?_|refine T.exit ?_|refine T.zf rfl ?_|refine T.ze rfl ?_|refine T.cond rfl (fun hc=>?_) (fun hc=>?_)|refine T.ret ?_|simp only [za,z8,reduceIte,Nat.reduceEqDiff]|((repeat ((fail_if_success (refine hK _ ?_));clear hK K));refine hK _ ?_;clear hK K))
  clear hd hn
  obtain ⟨n,hnl⟩ : ∃ n,n=l.length:=⟨_,rfl⟩
  have hgi:=hg.hit
  have haP:=fun k (h:k<l.length)=>aftP_at (l:=l) h
  have haL:=aftP_len l
  by_cases hv : 0<zO l J I
  ·have e1:expO l I J=true:=by simp [expO,hp,hv]
   have e2:expE l I J=chC l I J:=by simp [expE,hp,hv]
   have hgp : 0<g I:=by rw [hgi];exact hv
   have hd1:decide (dsF g I<0)=false:=decide_eq_false (by simp only [dsF];omega)
   rw [e1,e2]
   have hm1 : 1≤maxLen:=by unfold maxLen;omega
   have hcl:=z3z hv
   have hvl:=z2F (l:=l) (j:=J) (d:=J-I) (k:=I) (Nat.le_refl _) (Nat.le_of_lt hIJ)
   (refine T.reg (by kernel_rfl) fun K' hK'=>?_;simp only [bz];(repeat' (first|(with_reducible refine WL.fin ?_;refine hK' _ ?_;clear hK' K')|((with_reducible refine WL.step fun K2 hK2=>?_);simp only [simprocAttr,implies_true,amz,tys,hI0,hIl,Int.toNat_natCast,qB,z0h _ hIl,hd1];(repeat' with_reducible (first|(refine hK2 _ ?_;clear hK2 K2)|refine And.intro ?_ ?_|intro hb)))));all_goals ((try simp only [za,z8,reduceIte,Nat.reduceEqDiff]);(try ((repeat ((fail_if_success (refine hK _ ?_));clear hK K));refine hK _ ?_;clear hK K))))
   repeat' (first|refine T.zh fun K hK=>?_|refine T.block ?_|refine T.skip ?_|refine T.exit ?_|refine T.zf rfl ?_|refine T.ze rfl ?_|refine T.cond rfl (fun hc=>?_) (fun hc=>?_)|refine T.ret ?_|simp only [za,z8,reduceIte,Nat.reduceEqDiff]|((repeat ((fail_if_success (refine hK _ ?_));clear hK K));refine hK _ ?_;clear hK K))
   refine T.regO (d1 := 54) (d2 := 55) (av := .int I) 24 1 #[(0,.tmp 54)] 3 1 8 [[.val (.int .i64 I)]] (by kernel_rfl) rfl rfl rfl rfl (show 54<80 by decide) (show 55<80 by decide) ?_ rfl ?_ ?_ fun K' hK'=>?_
   ·simp only [List.map_cons,List.map_nil,simprocAttr,implies_true,amz,tys]
   ·simp only [List.map_cons,List.map_nil,hm1,simprocAttr,implies_true,amz,tys]
   ·simp only [tys]
   simp only [z18,frOf,List.map_cons,List.map_nil,ASt.add,zH,Nat.reduceAdd]
   (repeat' (first|(with_reducible refine WL.fin ?_;refine hK' _ ?_;clear hK' K')|(with_reducible refine WD.fin ?_)|((with_reducible first|refine WL.step fun K2 hK2=>?_|refine WD.step fun K2 hK2=>?_);simp only [simprocAttr,implies_true,amz,tys];(repeat' with_reducible (first|(refine hK2 _ ?_;clear hK2 K2)|refine And.intro ?_ ?_|intro hb)))))
   all_goals ((try simp only [za,z8,reduceIte,Nat.reduceEqDiff]);(try ((repeat ((fail_if_success (refine hK _ ?_));clear hK K));refine hK _ ?_;clear hK K)))
   repeat' (first|refine T.zh fun K hK=>?_|refine T.block ?_|refine T.skip ?_|refine T.exit ?_|refine T.zf rfl ?_|refine T.ze rfl ?_|refine T.cond rfl (fun hc=>?_) (fun hc=>?_)|refine T.ret ?_|simp only [za,z8,reduceIte,Nat.reduceEqDiff]|((repeat ((fail_if_success (refine hK _ ?_));clear hK K));refine hK _ ?_;clear hK K))
   (refine T.reg (by kernel_rfl) fun K' hK'=>?_;simp only [bz];(repeat' (first|(with_reducible refine WL.fin ?_;refine hK' _ ?_;clear hK' K')|((with_reducible refine WL.step fun K2 hK2=>?_);simp only [simprocAttr,implies_true,amz,tys];(repeat' with_reducible (first|(refine hK2 _ ?_;clear hK2 K2)|refine And.intro ?_ ?_|intro hb)))));all_goals ((try simp only [za,z8,reduceIte,Nat.reduceEqDiff]);(try ((repeat ((fail_if_success (refine hK _ ?_));clear hK K));refine hK _ ?_;clear hK K))))
   repeat' (first|refine T.zh fun K hK=>?_|refine T.block ?_|refine T.skip ?_|refine T.exit ?_|refine T.zf rfl ?_|refine T.ze rfl ?_|refine T.cond rfl (fun hc=>?_) (fun hc=>?_)|refine T.ret ?_|simp only [za,z8,reduceIte,Nat.reduceEqDiff]|((repeat ((fail_if_success (refine hK _ ?_));clear hK K));refine hK _ ?_;clear hK K))
   refine T.weak (zk.dat _ 1 none 24 [.seq 1 (rowF l.length (dsF g))] rfl) ?_;simp only [AV.z8Y,AV.z98,AV.z9t,AV.dat_pre,AV.dat_p,AV.dat_elt,AV.z9r,AV.z9J,AV.dat_fn,AV.dat_agg,AV.dat_tup,AO.dat,List.map_cons,List.map_nil,List.filter_cons,List.filter_nil,bne_self_eq_false,Nat.reduceBneDiff,Bool.false_eq_true,reduceIte,Nat.reduceEqDiff,]
   refine T.weak (zk.upN _ 10 (by simp)) ?_
   refine T.weak (zk.ren _ 0 5) ?_;simp only [ASt.ren,AV.qK,AV.z0p,AV.z06,AV.z0C,AV.z1I,AV.z0F,AV.z0a,AV.z08,AV.z1p,AV.z0E,AV.z0G,AO.z0O,AO.z0c,AO.z10,AO.z0W,List.map_cons,List.map_nil,List.filter_cons,List.filter_nil,zx,qf,reduceIte,Nat.reduceEqDiff,Nat.reduceLT,Nat.reduceBneDiff,bne_self_eq_false,Bool.and_true,Bool.and_false,Bool.true_and,Bool.false_and,Bool.and_self,Bool.false_eq_true,ne_eq,not_false_eq_true,not_true_eq_false,and_self,and_true,true_and,and_false,]
   refine T.weak (zk.ren _ 3 0) ?_;simp only [ASt.ren,AV.qK,AV.z0p,AV.z06,AV.z0C,AV.z1I,AV.z0F,AV.z0a,AV.z08,AV.z1p,AV.z0E,AV.z0G,AO.z0O,AO.z0c,AO.z10,AO.z0W,List.map_cons,List.map_nil,List.filter_cons,List.filter_nil,zx,qf,reduceIte,Nat.reduceEqDiff,Nat.reduceLT,Nat.reduceBneDiff,bne_self_eq_false,Bool.and_true,Bool.and_false,Bool.true_and,Bool.false_and,Bool.and_self,Bool.false_eq_true,ne_eq,not_false_eq_true,not_true_eq_false,and_self,and_true,true_and,and_false,]
   refine T.qc (fun p:Nat × List Nat=>⟨[(2,.int J),(6,.ptr 5 0),(9,.p (.seq 1 (aftP l))),(11,.elt [.seq 1 (rowF l.length (dsF g))] 0),(14,.own 2),(15,.ptr 0 0)],[(0,.boxP none 3 [.int p.1]),(2,.row 3 1 (qw p.2)),(5,.boxP none 26 [.bool false,.p (.val nilV)])],80,10⟩)
    (fun p => 1≤zO l J p.1∧(p.1=I∨zO l J p.1<g I)∧p.2++chT l J (zO l J p.1-1) p.1=chC l I J∧p.1≤J) (fun p=>zO l J p.1) (I,[I]) ⟨hv,.inl rfl,rfl,Nat.le_of_lt hIJ⟩ (by refine zk.of' rfl ?_;simp only [wks,reduceIte,Nat.reduceEqDiff,ASt.okB,AV.okB,Nat.reduceLT,implies_true,qw,List.map_cons,List.map_nil]) ?_
   rintro ⟨k,out⟩ ⟨hk1,hkg0,hch,hkJ⟩ KL hKL
   simp only at hk1 hkg0 hch hkJ hKL ⊢
   have hkg:zO l J k≤g I:=by
    rcases hkg0 with e|e
    ·rw [e,hgi];exact Nat.le_refl _
    ·omega
   have hol:out.length≤200000:=by
    have:=congrArg List.length hch
    rw [List.length_append,hcl] at this
    omega
   by_cases hkj:k=J
   ·have hd2:((k:Int) != (J:Int))=false:=by rw [hkj];simp
    have hout:out=chC l I J:=by
     rw [← hch,hkj,z16];simp [chT]
    repeat' (first|refine T.zh fun K hK=>?_|refine T.block ?_|refine T.skip ?_|refine T.exit ?_|refine T.zf rfl ?_|refine T.ze rfl ?_|refine T.cond rfl (fun hc=>?_) (fun hc=>?_)|refine T.ret ?_|simp only [za,z8,reduceIte,Nat.reduceEqDiff]|((repeat ((fail_if_success (refine hK _ ?_));clear hK K));refine hK _ ?_;clear hK K))
    (refine T.reg (by kernel_rfl) fun K' hK'=>?_;simp only [bz];(repeat' (first|(with_reducible refine WL.fin ?_;refine hK' _ ?_;clear hK' K')|((with_reducible refine WL.step fun K2 hK2=>?_);simp only [simprocAttr,implies_true,amz,tys,hd2];(repeat' with_reducible (first|(refine hK2 _ ?_;clear hK2 K2)|refine And.intro ?_ ?_|intro hb)))));all_goals ((try simp only [za,z8,reduceIte,Nat.reduceEqDiff]);(try ((repeat ((fail_if_success (refine hK _ ?_));clear hK K));refine hK _ ?_;clear hK K))))
    repeat' (first|refine T.zh fun K hK=>?_|refine T.block ?_|refine T.skip ?_|refine T.exit ?_|refine T.zf rfl ?_|refine T.ze rfl ?_|refine T.cond rfl (fun hc=>?_) (fun hc=>?_)|refine T.ret ?_|simp only [za,z8,reduceIte,Nat.reduceEqDiff]|((repeat ((fail_if_success (refine hK _ ?_));clear hK K));refine hK _ ?_;clear hK K))
    refine T.weak (zk.frz _ 2) ?_;simp only [ASt.frz,List.filter_cons,List.filter_nil,bne_self_eq_false,Nat.reduceBneDiff,Bool.false_eq_true,simprocAttr,implies_true,amz,]
    repeat' (first|refine T.zh fun K hK=>?_|refine T.block ?_|(refine T.reg (by kernel_rfl) fun K' hK'=>?_;simp only [bz];(repeat' (first|(with_reducible refine WL.fin ?_;refine hK' _ ?_;clear hK' K')|((with_reducible refine WL.step fun K2 hK2=>?_);simp only [simprocAttr,implies_true,amz,tys];(repeat' with_reducible (first|(refine hK2 _ ?_;clear hK2 K2)|refine And.intro ?_ ?_|intro hb))))))|refine T.skip ?_|refine T.exit ?_|refine T.zf rfl ?_|refine T.ze rfl ?_|refine T.cond rfl (fun hc=>?_) (fun hc=>?_)|refine T.ret ?_|simp only [za,z8,reduceIte,Nat.reduceEqDiff]|((repeat ((fail_if_success (refine hK _ ?_));clear hK K));refine hK _ ?_;clear hK K))
    refine zy.ret (.inr rfl) Try.results10 ?_;simp only [zu,zo,zn,simprocAttr,implies_true,amz,tys,hout,rsnN,e1,e2]
   ·have hd2:((k:Int) != (J:Int))=true:=by simp;omega
    have h2 : 2≤zO l J k:=by
     by_cases e:zO l J k=1
     ·exact absurd (z5B e) hkj
     ·omega
    have hgk:g k=zO l J k:=by
     rcases hkg0 with e|e
     ·rw [e];exact hgi
     ·obtain ⟨v,hv2⟩ : ∃ v,zO l J k=v+1:=⟨zO l J k-1,by omega⟩
      have:=z0B l J k
      rw [hv2] at this
      rw [hv2];exact hg.yes hgp k v (by omega) this
    obtain ⟨q,hq1,hq2⟩:=ix_next hg hgk hkg h2 hJl hl
    have hkl:k<l.length:=by omega
    have haP:=haP k hkl
    have hk0:(0:Int)≤(k:Int):=by omega
    have hq0:(0:Int)≤(q:Int):=by omega
    have m1:=z3v hq2
    have hlen:(aftL l k).length≤l.length:=z3d _ _
    have hmem : ∀ a ∈ aftL l k,a<l.length:=fun a ha=>by
     simp only [aftL,rgF,List.mem_filter,List.mem_range] at ha
     exact ha.1
    have hn1:=z2Z h2
    have hn2:=z6I h2
    have hsn:=z9A h2 hch
    generalize nxtC l J k=y at m1 hn1 hn2 hsn
    have hrs:=z0S out y
    have hb3:(qw out).length+1≤maxLen:=by rw [qJ];unfold maxLen;omega
    have hb4:((qw out).length+1)*8≤140737488355328:=by rw [qJ];omega
    repeat' (first|refine T.zh fun K hK=>?_|refine T.block ?_|refine T.skip ?_|refine T.exit ?_|refine T.zf rfl ?_|refine T.ze rfl ?_|refine T.cond rfl (fun hc=>?_) (fun hc=>?_)|refine T.ret ?_|simp only [za,z8,reduceIte,Nat.reduceEqDiff]|((repeat ((fail_if_success (refine hK _ ?_));clear hK K));refine hK _ ?_;clear hK K))
    (refine T.reg (by kernel_rfl) fun K' hK'=>?_;simp only [bz];(repeat' (first|(with_reducible refine WL.fin ?_;refine hK' _ ?_;clear hK' K')|((with_reducible refine WL.step fun K2 hK2=>?_);simp only [simprocAttr,implies_true,amz,tys,hd2];(repeat' with_reducible (first|(refine hK2 _ ?_;clear hK2 K2)|refine And.intro ?_ ?_|intro hb)))));all_goals ((try simp only [za,z8,reduceIte,Nat.reduceEqDiff]);(try ((repeat ((fail_if_success (refine hK _ ?_));clear hK K));refine hK _ ?_;clear hK K))))
    repeat' (first|refine T.zh fun K hK=>?_|refine T.block ?_|refine T.skip ?_|refine T.exit ?_|refine T.zf rfl ?_|refine T.ze rfl ?_|refine T.cond rfl (fun hc=>?_) (fun hc=>?_)|refine T.ret ?_|simp only [za,z8,reduceIte,Nat.reduceEqDiff]|((repeat ((fail_if_success (refine hK _ ?_));clear hK K));refine hK _ ?_;clear hK K))
    refine T.pin 0 _ rfl fun bb=>?_;simp only [zG,AO.pin,List.map_cons,List.map_nil,reduceIte,Nat.reduceEqDiff]
    have hix:=indexF_ok bb l.length k (dsF g) (aftL l k) hmem hkl (by omega)
    rw [hq1] at hix
    (refine T.reg (by kernel_rfl) fun K' hK'=>?_;simp only [bz];(repeat' (first|(with_reducible refine WL.fin ?_;refine hK' _ ?_;clear hK' K')|((with_reducible refine WL.step fun K2 hK2=>?_);simp only [simprocAttr,implies_true,amz,tys,hk0,Int.toNat_natCast,haP];(repeat' (first|with_reducible (first|(refine hK2 _ ?_;clear hK2 K2)|refine And.intro ?_ ?_|intro hb)|((with_reducible refine qp 1 _ _ [0] (Ent.of Try.func20 (by kernel_rfl) rfl) (hix) ?_ ?_ ?_);(focus ((refine ⟨Nat.le_of_ble_eq_true rfl,?_,?_⟩ <;> simp only [List.mem_cons,List.not_mem_nil,or_false,forall_eq_or_imp,forall_eq,zx,qf,reduceIte,Nat.reduceEqDiff,AO.qg,AO.qI,AO.qG,AO.qH,AV.okB,AV.qa,AV.qo,AV.qy,List.all_cons,List.all_nil,Bool.and_true,Bool.and_self,Nat.reduceLT,decide_true,true_and,and_true,Option.isSome_some,true_implies,false_implies,implies_true,and_self,Nat.lt_irrefl,Option.some.injEq,]);done));(focus (simp [AV.okB];done));rintro hp' r ⟨rfl,rfl⟩;refine ⟨by simp [Kept,zx,AO.handle],?_⟩;simp only [ASt.qU,AV.zU,AV.zS,AV.zM,AV.zW,AV.ql,AV.zY,AV.zJ,AV.zL,AV.qh,AV.zZ,AV.zX,AO.keep,List.map_cons,List.map_nil,List.filter_cons,List.filter_nil,Nat.reduceLeDiff,decide_true,decide_false,reduceIte,Bool.false_eq_true,List.cons_append,List.nil_append,List.mem_cons,List.not_mem_nil,or_false,false_or,or_true,true_or,Nat.reduceEqDiff,zH,qm,Nat.le_refl,]))))));all_goals ((try simp only [za,z8,reduceIte,Nat.reduceEqDiff]);(try ((repeat ((fail_if_success (refine hK _ ?_));clear hK K));refine hK _ ?_;clear hK K))))
    repeat' (first|refine T.zh fun K hK=>?_|refine T.block ?_|refine T.skip ?_|refine T.exit ?_|refine T.zf rfl ?_|refine T.ze rfl ?_|refine T.cond rfl (fun hc=>?_) (fun hc=>?_)|refine T.ret ?_|simp only [za,z8,reduceIte,Nat.reduceEqDiff]|((repeat ((fail_if_success (refine hK _ ?_));clear hK K));refine hK _ ?_;clear hK K))
    (refine T.reg (by kernel_rfl) fun K' hK'=>?_;simp only [bz];(repeat' (first|(with_reducible refine WL.fin ?_;refine hK' _ ?_;clear hK' K')|((with_reducible refine WL.step fun K2 hK2=>?_);simp only [simprocAttr,implies_true,amz,tys,hk0,hq0,Int.toNat_natCast,haP,m1];(repeat' with_reducible (first|(refine hK2 _ ?_;clear hK2 K2)|refine And.intro ?_ ?_|intro hb)))));all_goals ((try simp only [za,z8,reduceIte,Nat.reduceEqDiff]);(try ((repeat ((fail_if_success (refine hK _ ?_));clear hK K));refine hK _ ?_;clear hK K))))
    repeat' (first|refine T.zh fun K hK=>?_|refine T.block ?_|refine T.skip ?_|refine T.exit ?_|refine T.zf rfl ?_|refine T.ze rfl ?_|refine T.cond rfl (fun hc=>?_) (fun hc=>?_)|refine T.ret ?_|simp only [za,z8,reduceIte,Nat.reduceEqDiff]|((repeat ((fail_if_success (refine hK _ ?_));clear hK K));refine hK _ ?_;clear hK K))
    (refine T.reg (by kernel_rfl) fun K' hK'=>?_;simp only [bz];(repeat' (first|(with_reducible refine WL.fin ?_;refine hK' _ ?_;clear hK' K')|((with_reducible refine WL.step fun K2 hK2=>?_);simp only [simprocAttr,implies_true,amz,tys,hm1,hb3,hb4,hrs,List.length_cons,List.length_nil,Nat.zero_add];(repeat' with_reducible (first|(refine hK2 _ ?_;clear hK2 K2)|refine And.intro ?_ ?_|intro hb)))));all_goals ((try simp only [za,z8,reduceIte,Nat.reduceEqDiff]);(try ((repeat ((fail_if_success (refine hK _ ?_));clear hK K));refine hK _ ?_;clear hK K))))
    repeat' (first|refine T.zh fun K hK=>?_|refine T.block ?_|(refine T.reg (by kernel_rfl) fun K' hK'=>?_;simp only [bz];(repeat' (first|(with_reducible refine WL.fin ?_;refine hK' _ ?_;clear hK' K')|((with_reducible refine WL.step fun K2 hK2=>?_);simp only [simprocAttr,implies_true,amz,tys];(repeat' with_reducible (first|(refine hK2 _ ?_;clear hK2 K2)|refine And.intro ?_ ?_|intro hb))))))|refine T.skip ?_|refine T.exit ?_|refine T.zf rfl ?_|refine T.ze rfl ?_|refine T.cond rfl (fun hc=>?_) (fun hc=>?_)|refine T.ret ?_|simp only [za,z8,reduceIte,Nat.reduceEqDiff]|((repeat ((fail_if_success (refine hK _ ?_));clear hK K));refine hK _ ?_;clear hK K))
    refine hKL _ (y,out ++ [y]) ?_ ⟨by simp only;omega,.inr (by simp only;omega),hsn,hn2⟩ (by simp only;omega)
    exact (zk.ren _ 10 0).trans (by refine zk.of' rfl ?_;simp only [wks,reduceIte,Nat.reduceEqDiff,ASt.okB,AV.okB,Nat.reduceLT,implies_true,ASt.ren,AV.qK,AV.z0p,AV.z06,AV.z0C,AV.z1I,AV.z0F,AV.z0a,AV.z08,AV.z1p,AV.z0E,AV.z0G,AO.z0O,AO.z0c,AO.z10,AO.z0W,List.map_cons,List.map_nil,List.filter_cons,List.filter_nil,zx,qf,Nat.reduceBneDiff,bne_self_eq_false,Bool.and_false,Bool.false_and,Bool.false_eq_true,ne_eq,not_false_eq_true,not_true_eq_false,and_self,and_false,])
  ·have e1:expO l I J=false:=by simp [expO,hp,hv]
   have e2:expE l I J=z1z l J:=by simp [expE,hp,hv]
   have hg0:g I=0:=by omega
   have hd1:decide (dsF g I<0)=true:=decide_eq_true (by simp only [dsF];omega)
   rw [e1,e2]
   repeat' (first|refine T.zh fun K hK=>?_|refine T.block ?_|(refine T.reg (by kernel_rfl) fun K' hK'=>?_;simp only [bz];(repeat' (first|(with_reducible refine WL.fin ?_;refine hK' _ ?_;clear hK' K')|((with_reducible refine WL.step fun K2 hK2=>?_);simp only [simprocAttr,implies_true,amz,tys,hI0,hIl,Int.toNat_natCast,qB,z0h _ hIl,hd1,hlm];(repeat' with_reducible (first|(refine hK2 _ ?_;clear hK2 K2)|refine And.intro ?_ ?_|intro hb))))))|refine T.skip ?_|refine T.exit ?_|refine T.zf rfl ?_|refine T.ze rfl ?_|refine T.cond rfl (fun hc=>?_) (fun hc=>?_)|refine T.ret ?_|simp only [za,z8,reduceIte,Nat.reduceEqDiff]|((repeat ((fail_if_success (refine hK _ ?_));clear hK K));refine hK _ ?_;clear hK K))
   have hcn:z1z l J=rgF (fun a=>decide (0<g a)) l.length:=by
    rw [← cone_eq,cone_rgF hpp.1 hJl]
    refine z4J fun a ha=>?_
    rw [z5C hJl,hg.cone hg0]
   refine T.weak (zk.z5N _ 12 3 1 (show 12<80 by decide) rfl) ?_;simp only [ASt.add,zH,Nat.reduceAdd]
   refine T.qc (fun k:Nat=>⟨[(0,.p (.seq 9 (l.map evC))),(6,.ptr 0 0),(11,.ptr 1 0),(12,.own 2),(38,.int l.length),(39,.int k)],[(2,.row 3 1 (qw (rgF (fun a=>decide (0<g a)) k))),(1,.boxP none 24 [.p (.seq 1 (rowF l.length (dsF g)))]),(0,.boxP none 26 [.bool false,.p (.val nilV)])],80,3⟩) (fun k=>k≤l.length) (fun k=>l.length-k) 0 (Nat.zero_le _) (by refine zk.of' rfl ?_;simp only [wks,reduceIte,Nat.reduceEqDiff,ASt.okB,AV.okB,Nat.reduceLT,implies_true,Int.natCast_zero,z7M,nilI]) ?_
   intro k hk KL hKL
   by_cases hkn:k<l.length
   ·have hd:decide ((k:Int)<(l.length:Int))=true:=by simpa using hkn
    have hk0:(0:Int)≤(k:Int):=by omega
    have hsc:=z0T (fun a=>decide (0<g a)) k
    have hrl:=z3d (fun a=>decide (0<g a)) k
    cases hgk:decide (0<g k) with
    | true =>
     have hd2:decide ((0:Int)≤dsF g k)=true:=decide_eq_true (by have:=of_decide_eq_true hgk;simp only [dsF];omega)
     rw [hgk,if_pos rfl] at hsc
     have hm1 : 1≤maxLen:=by unfold maxLen;omega
     have hb3:(qw (rgF (fun a=>decide (0<g a)) k)).length+1≤maxLen:=by rw [qJ];unfold maxLen;omega
     have hb4:((qw (rgF (fun a=>decide (0<g a)) k)).length+1)*8≤140737488355328:=by rw [qJ];omega
     have hrs:=z0S (rgF (fun a=>decide (0<g a)) k) k
     repeat' (first|refine T.zh fun K hK=>?_|refine T.block ?_|(refine T.reg (by kernel_rfl) fun K' hK'=>?_;simp only [bz];(repeat' (first|(with_reducible refine WL.fin ?_;refine hK' _ ?_;clear hK' K')|((with_reducible refine WL.step fun K2 hK2=>?_);simp only [simprocAttr,implies_true,amz,tys,hd,hk0,Int.toNat_natCast,qB,hkn,z0h _ hkn,hd2,hm1,hb3,hb4,hrs,List.length_cons,List.length_nil,Nat.zero_add];(repeat' with_reducible (first|(refine hK2 _ ?_;clear hK2 K2)|refine And.intro ?_ ?_|intro hb))))))|refine T.skip ?_|refine T.exit ?_|refine T.zf rfl ?_|refine T.ze rfl ?_|refine T.cond rfl (fun hc=>?_) (fun hc=>?_)|refine T.ret ?_|simp only [za,z8,reduceIte,Nat.reduceEqDiff]|((repeat ((fail_if_success (refine hK _ ?_));clear hK K));refine hK _ ?_;clear hK K))
     refine hKL _ (k+1) ?_ hkn (by omega)
     rw [hsc]
     refine zk.of' rfl ?_;simp only [wks,reduceIte,Nat.reduceEqDiff,ASt.okB,AV.okB,Nat.reduceLT,implies_true,zm (show k<1152921504606846976 by omega)]
    | false =>
     have hd2:decide ((0:Int)≤dsF g k)=false:=decide_eq_false (by have:=of_decide_eq_false hgk;simp only [dsF];omega)
     rw [hgk,if_neg (by simp),List.append_nil] at hsc
     repeat' (first|refine T.zh fun K hK=>?_|refine T.block ?_|(refine T.reg (by kernel_rfl) fun K' hK'=>?_;simp only [bz];(repeat' (first|(with_reducible refine WL.fin ?_;refine hK' _ ?_;clear hK' K')|((with_reducible refine WL.step fun K2 hK2=>?_);simp only [simprocAttr,implies_true,amz,tys,hd,hk0,Int.toNat_natCast,qB,hkn,z0h _ hkn,hd2];(repeat' with_reducible (first|(refine hK2 _ ?_;clear hK2 K2)|refine And.intro ?_ ?_|intro hb))))))|refine T.skip ?_|refine T.exit ?_|refine T.zf rfl ?_|refine T.ze rfl ?_|refine T.cond rfl (fun hc=>?_) (fun hc=>?_)|refine T.ret ?_|simp only [za,z8,reduceIte,Nat.reduceEqDiff]|((repeat ((fail_if_success (refine hK _ ?_));clear hK K));refine hK _ ?_;clear hK K))
     refine hKL _ (k+1) ?_ hkn (by omega)
     rw [hsc]
     refine zk.of' rfl ?_;simp only [wks,reduceIte,Nat.reduceEqDiff,ASt.okB,AV.okB,Nat.reduceLT,implies_true,zm (show k<1152921504606846976 by omega)]
   ·have hd:decide ((k:Int)<(l.length:Int))=false:=by simpa using hkn
    have hke:k=l.length:=by omega
    repeat' (first|refine T.zh fun K hK=>?_|refine T.block ?_|refine T.skip ?_|refine T.exit ?_|refine T.zf rfl ?_|refine T.ze rfl ?_|refine T.cond rfl (fun hc=>?_) (fun hc=>?_)|refine T.ret ?_|simp only [za,z8,reduceIte,Nat.reduceEqDiff]|((repeat ((fail_if_success (refine hK _ ?_));clear hK K));refine hK _ ?_;clear hK K))
    (refine T.reg (by kernel_rfl) fun K' hK'=>?_;simp only [bz];(repeat' (first|(with_reducible refine WL.fin ?_;refine hK' _ ?_;clear hK' K')|((with_reducible refine WL.step fun K2 hK2=>?_);simp only [simprocAttr,implies_true,amz,tys,hd];(repeat' with_reducible (first|(refine hK2 _ ?_;clear hK2 K2)|refine And.intro ?_ ?_|intro hb)))));all_goals ((try simp only [za,z8,reduceIte,Nat.reduceEqDiff]);(try ((repeat ((fail_if_success (refine hK _ ?_));clear hK K));refine hK _ ?_;clear hK K))))
    repeat' (first|refine T.zh fun K hK=>?_|refine T.block ?_|refine T.skip ?_|refine T.exit ?_|refine T.zf rfl ?_|refine T.ze rfl ?_|refine T.cond rfl (fun hc=>?_) (fun hc=>?_)|refine T.ret ?_|simp only [za,z8,reduceIte,Nat.reduceEqDiff]|((repeat ((fail_if_success (refine hK _ ?_));clear hK K));refine hK _ ?_;clear hK K))
    refine T.weak (zk.frz _ 2) ?_;simp only [ASt.frz,List.filter_cons,List.filter_nil,bne_self_eq_false,Nat.reduceBneDiff,Bool.false_eq_true,simprocAttr,implies_true,amz,]
    rw [hke]
    repeat' (first|refine T.zh fun K hK=>?_|refine T.block ?_|(refine T.reg (by kernel_rfl) fun K' hK'=>?_;simp only [bz];(repeat' (first|(with_reducible refine WL.fin ?_;refine hK' _ ?_;clear hK' K')|((with_reducible refine WL.step fun K2 hK2=>?_);simp only [simprocAttr,implies_true,amz,tys];(repeat' with_reducible (first|(refine hK2 _ ?_;clear hK2 K2)|refine And.intro ?_ ?_|intro hb))))))|refine T.skip ?_|refine T.exit ?_|refine T.zf rfl ?_|refine T.ze rfl ?_|refine T.cond rfl (fun hc=>?_) (fun hc=>?_)|refine T.ret ?_|simp only [za,z8,reduceIte,Nat.reduceEqDiff]|((repeat ((fail_if_success (refine hK _ ?_));clear hK K));refine hK _ ?_;clear hK K))
    refine zy.ret (.inr rfl) Try.results10 ?_;simp only [zu,zo,zn,simprocAttr,implies_true,amz,tys,rsnN,e1,e2,hcn]
def rowT (n:Nat) (f:Nat→Bool):List (List PV):=(List.range n).map fun a => [PV.val (.bool (f a))]
theorem z0w (n:Nat) (f:Nat→Bool):(rowT n f).length=n:=by simp [rowT]
theorem z2L {n a:Nat} (f:Nat→Bool) (h:a<n):(rowT n f)[a]? = some [PV.val (.bool (f a))]:=by
 unfold rowT;rw [List.getElem?_map,List.getElem?_range h];rfl
theorem zaa {n:Nat} {f g:Nat→Bool} (h : ∀ a,a<n→f a=g a):rowT n f=rowT n g:=by
 unfold rowT
 exact List.map_congr_left fun a ha=>by rw [h a (List.mem_range.1 ha)]
def upT (f:Nat→Bool) (a:Nat) (v:Bool):Nat→Bool:=fun q=>if q=a then v else f q
theorem rowT_set {n a:Nat} (f:Nat→Bool) (v:Bool) (h:a<n):(rowT n f).set a [PV.val (.bool v)]=rowT n (upT f a v):=by
 apply List.ext_getElem?
 intro q
 rw [List.getElem?_set]
 by_cases hq:q<n
 ·rw [z2L _ hq,z2L _ hq]
  unfold upT
  by_cases e:a=q
  ·subst e;rw [if_pos rfl,if_pos (by rw [z0w];exact h),if_pos rfl]
  ·rw [if_neg e,if_neg (fun h=>e h.symm)]
 ·have e : ¬ a=q:=by omega
  rw [if_neg e,List.getElem?_eq_none (by rw [z0w];omega),List.getElem?_eq_none (by rw [z0w];omega)]
def inT (s:List Int):Nat→Bool:=fun q=>s.contains (q:Int)
theorem z1M {s:List Int} {q:Nat} : inT s q=true↔(q:Int) ∈ s:=by simp [inT]
theorem z5E (n:Nat):rowT n (inT [])=List.replicate n [PV.val (.bool false)]:=by
 simp [rowT,inT,List.map_const']
theorem z8y {n:Nat} (s:List Int) {x:Int} (h0 : 0≤x) (h1:x<(n:Int)):(rowT n (inT s)).set x.toNat [PV.val (.bool true)]=rowT n (inT (s ++ [x])):=by
 rw [rowT_set _ _ (by omega)]
 refine zaa fun q _=>?_
 unfold upT
 by_cases e:q=x.toNat
 ·rw [if_pos e,eq_comm,z1M,List.mem_append,List.mem_singleton];right;omega
 ·rw [if_neg e,Bool.eq_iff_iff,z1M,z1M,List.mem_append,List.mem_singleton]
  constructor
  ·exact .inl
  ·rintro (h|h)
   ·exact h
   ·omega
theorem rowI_Z (r:List Nat):qw r=rowZ (zs r):=by simp [qw,rowZ,zs]
theorem rowZ_take (ev:List Int) (k:Nat):(rowZ ev).take k=rowZ (ev.take k):=by simp [rowZ,List.map_take]
theorem z1t {α:Type} {l:List α} {k:Nat} {x : α} (h:l[k]? = some x):l.take (k+1)=l.take k ++ [x]:=by rw [List.take_add_one,h];rfl
theorem befZ {l:List Ev} {a:Int} {k:Nat} : (zs (befL l k)).contains a=true ↔ ∃ m:Nat,a=m∧m<k∧qi l m k=true:=by
 rw [List.contains_iff_mem]
 constructor
 ·intro h
  obtain ⟨n,h1,h2⟩:=z6a h
  exact ⟨n,h2,z2E.1 h1⟩
 ·rintro ⟨m,rfl,h⟩
  exact z9q (z2E.2 h)
theorem z0Q {k:Nat} (h : 0<k) (h2:k<1152921504606846976):IntKind.i64.wrap ((k:Int)-1)=((k-1:Nat):Int):=by
 rw [z4c (by omega) (by omega)];omega
theorem z7J (l:List Ev) (i j:Int) (o:Bool) (ev:List Int) (hl:l.length≤100000) (hel:ev.length≤100000):zq Try.prog 15 [.p (.seq 9 (l.map evC)),.int i,.int j,rsnA o ev] (.bool (chkB l i j o ev)):=by
 have hn:=z5n l i j hl
 have hlm:(l.map evC).length=l.length:=by simp
 have hzl:=z1A ev
 refine zq.of Try.func15 rfl 182 rfl (by decide) (by simp [AV.okB,rsnA]) ?_
 simp only [rsnA]
 cases hp:plcB l i j with
 | false =>
  rw [hp] at hn
  simp only [Bool.false_eq_true,if_false] at hn
  have hB:chkB l i j o ev=false:=zV fun h=>by have:=z01.2 h.plc;rw [hp] at this;cases this
  repeat' (first|refine T.zh fun K hK=>?_|refine T.block ?_|(refine T.reg (by kernel_rfl) fun K' hK'=>?_;simp only [bz];(repeat' (first|(with_reducible refine WL.fin ?_;refine hK' _ ?_;clear hK' K')|((with_reducible refine WL.step fun K2 hK2=>?_);simp only [simprocAttr,implies_true,amz,tys,hlm,Bool.not_false];(repeat' (first|with_reducible (first|(refine hK2 _ ?_;clear hK2 K2)|refine And.intro ?_ ?_|intro hb)|((first|(with_reducible apply zg)|(with_reducible apply zl));case h=>exact CallV.plain (Ent.of Try.func18 (by kernel_rfl) rfl) (hn) (by simp [AV.okB]))))))))|refine T.skip ?_|refine T.exit ?_|refine T.zf rfl ?_|refine T.ze rfl ?_|refine T.cond rfl (fun hc=>?_) (fun hc=>?_)|refine T.ret ?_|simp only [za,z8,reduceIte,Nat.reduceEqDiff]|((repeat ((fail_if_success (refine hK _ ?_));clear hK K));refine hK _ ?_;clear hK K))
  all_goals (refine zy.ret (.inr rfl) Try.results15 ?_;simp only [zu,zo,zn,simprocAttr,implies_true,amz,tys,hB])
 | true =>
  have hpp:=z01.1 hp
  obtain ⟨I,rfl⟩ : ∃ I:Nat,i=I:=⟨i.toNat,by have:=hpp.2.1;omega⟩
  obtain ⟨J,rfl⟩ : ∃ J:Nat,j=J:=⟨j.toNat,by have:=hpp.2.1;have:=hpp.2.2.1;omega⟩
  have hIJ:I<J:=by have:=hpp.2.2.1;omega
  have hJl:J<l.length:=by have:=hpp.2.2.2;omega
  rw [hp] at hn
  simp only [if_true] at hn
  by_cases he0:ev.length=0
  ·have hd0:((ev.length:Int)==0)=true:=by rw [he0];rfl
   have hB:chkB l I J o ev=false:=zV fun h=>by
    cases o with
    | true=>have h1:=(List.getElem?_eq_some_iff.1 (h.fst rfl)).1;omega
    | false=>have h1:=h.hasJ rfl;rw [List.length_eq_zero_iff.1 he0] at h1;cases h1
   repeat' (first|refine T.zh fun K hK=>?_|refine T.block ?_|(refine T.reg (by kernel_rfl) fun K' hK'=>?_;simp only [bz];(repeat' (first|(with_reducible refine WL.fin ?_;refine hK' _ ?_;clear hK' K')|((with_reducible refine WL.step fun K2 hK2=>?_);simp only [simprocAttr,implies_true,amz,tys,hlm,hzl,hd0,Bool.not_true];(repeat' (first|with_reducible (first|(refine hK2 _ ?_;clear hK2 K2)|refine And.intro ?_ ?_|intro hb)|((first|(with_reducible apply zg)|(with_reducible apply zl));case h=>exact CallV.plain (Ent.of Try.func18 (by kernel_rfl) rfl) (hn) (by simp [AV.okB]))))))))|refine T.skip ?_|refine T.exit ?_|refine T.zf rfl ?_|refine T.ze rfl ?_|refine T.cond rfl (fun hc=>?_) (fun hc=>?_)|refine T.ret ?_|simp only [za,z8,reduceIte,Nat.reduceEqDiff]|((repeat ((fail_if_success (refine hK _ ?_));clear hK K));refine hK _ ?_;clear hK K))
   all_goals (refine zy.ret (.inr rfl) Try.results15 ?_;simp only [zu,zo,zn,simprocAttr,implies_true,amz,tys,hB])
  have hd0:((ev.length:Int)==0)=false:=by rw [beq_eq_false_iff_ne];omega
  repeat' (first|refine T.zh fun K hK=>?_|refine T.block ?_|(refine T.reg (by kernel_rfl) fun K' hK'=>?_;simp only [bz];(repeat' (first|(with_reducible refine WL.fin ?_;refine hK' _ ?_;clear hK' K')|((with_reducible refine WL.step fun K2 hK2=>?_);simp only [simprocAttr,implies_true,amz,tys,hlm,hzl,hd0,Bool.not_true];(repeat' (first|with_reducible (first|(refine hK2 _ ?_;clear hK2 K2)|refine And.intro ?_ ?_|intro hb)|((first|(with_reducible apply zg)|(with_reducible apply zl));case h=>exact CallV.plain (Ent.of Try.func18 (by kernel_rfl) rfl) (hn) (by simp [AV.okB]))))))))|refine T.skip ?_|refine T.exit ?_|refine T.zf rfl ?_|refine T.ze rfl ?_|refine T.cond rfl (fun hc=>?_) (fun hc=>?_)|refine T.ret ?_|simp only [za,z8,reduceIte,Nat.reduceEqDiff]|((repeat ((fail_if_success (refine hK _ ?_));clear hK K));refine hK _ ?_;clear hK K))
  clear hn
  obtain ⟨n,hnl⟩ : ∃ n,n=l.length:=⟨_,rfl⟩
  have hbl:=z9p l
  have hba:=fun k (h:k<l.length)=>befP_at (l:=l) h
  rw [← hnl] at hbl
  generalize befP l=BP at hbl hba
  refine T.qc (fun k:Nat=>⟨[(0,.p (.seq 9 (l.map evC))),(1,.int I),(2,.int J),(7,.ptr 0 0),(9,.p (.seq 1 BP)),(43,.p (.seq 1 (rowZ ev))),(44,.int ev.length),(45,.int k)],[(0,.boxP none 26 [.bool o,.p (.seq 1 (rowZ ev))])],182,1⟩) (fun k=>k≤ev.length ∧ ∀ x ∈ ev.take k,0≤x∧x<(l.length:Int)) (fun k=>ev.length-k) 0 ⟨Nat.zero_le _,by simp⟩ (by refine zk.of' rfl ?_;simp only [wks,reduceIte,Nat.reduceEqDiff,ASt.okB,AV.okB,Nat.reduceLT,implies_true,Int.natCast_zero]) ?_
  rintro k ⟨hk,hrg⟩ KL hKL
  by_cases hkn:k<ev.length
  ·have hd:decide ((k:Int)<(ev.length:Int))=true:=by simpa using hkn
   have hk0:(0:Int)≤(k:Int):=by omega
   obtain ⟨x,hx⟩:=zT hkn
   have m1:=qN hx
   have hts:=z1t hx
   have hxm:=List.mem_of_getElem? hx
   by_cases hb : 0≤x∧x<(l.length:Int)
   ·have d1:decide (x<0)=false:=by simp;omega
    have d2:decide ((l.length:Int)≤x)=false:=by simp;omega
    repeat' (first|refine T.zh fun K hK=>?_|refine T.block ?_|(refine T.reg (by kernel_rfl) fun K' hK'=>?_;simp only [bz];(repeat' (first|(with_reducible refine WL.fin ?_;refine hK' _ ?_;clear hK' K')|((with_reducible refine WL.step fun K2 hK2=>?_);simp only [simprocAttr,implies_true,amz,tys,hlm,hd,hk0,Int.toNat_natCast,m1,d1,d2];(repeat' with_reducible (first|(refine hK2 _ ?_;clear hK2 K2)|refine And.intro ?_ ?_|intro hb))))))|refine T.skip ?_|refine T.exit ?_|refine T.zf rfl ?_|refine T.ze rfl ?_|refine T.cond rfl (fun hc=>?_) (fun hc=>?_)|refine T.ret ?_|simp only [za,z8,reduceIte,Nat.reduceEqDiff]|((repeat ((fail_if_success (refine hK _ ?_));clear hK K));refine hK _ ?_;clear hK K))
    refine hKL _ (k+1) ?_ ⟨hkn,fun y hy=>?_⟩ (by omega)
    ·refine zk.of' rfl ?_;simp only [wks,reduceIte,Nat.reduceEqDiff,ASt.okB,AV.okB,Nat.reduceLT,implies_true,zm (show k<1152921504606846976 by omega)]
    ·rw [hts,List.mem_append,List.mem_singleton] at hy
     rcases hy with hy|rfl
     ·exact hrg y hy
     ·exact hb
   ·have hB:chkB l I J o ev=false:=zV fun h=>hb (h.rng x hxm)
    cases d1:decide (x<0) with
    | true =>
     repeat' (first|refine T.zh fun K hK=>?_|refine T.block ?_|(refine T.reg (by kernel_rfl) fun K' hK'=>?_;simp only [bz];(repeat' (first|(with_reducible refine WL.fin ?_;refine hK' _ ?_;clear hK' K')|((with_reducible refine WL.step fun K2 hK2=>?_);simp only [simprocAttr,implies_true,amz,tys,hlm,hd,hk0,Int.toNat_natCast,m1,d1];(repeat' with_reducible (first|(refine hK2 _ ?_;clear hK2 K2)|refine And.intro ?_ ?_|intro hb))))))|refine T.skip ?_|refine T.exit ?_|refine T.zf rfl ?_|refine T.ze rfl ?_|refine T.cond rfl (fun hc=>?_) (fun hc=>?_)|refine T.ret ?_|simp only [za,z8,reduceIte,Nat.reduceEqDiff]|((repeat ((fail_if_success (refine hK _ ?_));clear hK K));refine hK _ ?_;clear hK K))
     all_goals (refine zy.ret (.inr rfl) Try.results15 ?_;simp only [zu,zo,zn,simprocAttr,implies_true,amz,tys,hB])
    | false =>
     have d2:decide ((l.length:Int)≤x)=true:=by have:=of_decide_eq_false d1;simp;omega
     repeat' (first|refine T.zh fun K hK=>?_|refine T.block ?_|(refine T.reg (by kernel_rfl) fun K' hK'=>?_;simp only [bz];(repeat' (first|(with_reducible refine WL.fin ?_;refine hK' _ ?_;clear hK' K')|((with_reducible refine WL.step fun K2 hK2=>?_);simp only [simprocAttr,implies_true,amz,tys,hlm,hd,hk0,Int.toNat_natCast,m1,d1,d2];(repeat' with_reducible (first|(refine hK2 _ ?_;clear hK2 K2)|refine And.intro ?_ ?_|intro hb))))))|refine T.skip ?_|refine T.exit ?_|refine T.zf rfl ?_|refine T.ze rfl ?_|refine T.cond rfl (fun hc=>?_) (fun hc=>?_)|refine T.ret ?_|simp only [za,z8,reduceIte,Nat.reduceEqDiff]|((repeat ((fail_if_success (refine hK _ ?_));clear hK K));refine hK _ ?_;clear hK K))
     all_goals (refine zy.ret (.inr rfl) Try.results15 ?_;simp only [zu,zo,zn,simprocAttr,implies_true,amz,tys,hB])
  have hd:decide ((k:Int)<(ev.length:Int))=false:=by simpa using hkn
  rw [show k=ev.length by omega,List.take_length] at hrg
  repeat' (first|refine T.zh fun K hK=>?_|refine T.block ?_|refine T.skip ?_|refine T.exit ?_|refine T.zf rfl ?_|refine T.ze rfl ?_|refine T.cond rfl (fun hc=>?_) (fun hc=>?_)|refine T.ret ?_|simp only [za,z8,reduceIte,Nat.reduceEqDiff]|((repeat ((fail_if_success (refine hK _ ?_));clear hK K));refine hK _ ?_;clear hK K))
  (refine T.reg (by kernel_rfl) fun K' hK'=>?_;simp only [bz];(repeat' (first|(with_reducible refine WL.fin ?_;refine hK' _ ?_;clear hK' K')|((with_reducible refine WL.step fun K2 hK2=>?_);simp only [simprocAttr,implies_true,amz,tys,hd];(repeat' with_reducible (first|(refine hK2 _ ?_;clear hK2 K2)|refine And.intro ?_ ?_|intro hb)))));all_goals ((try simp only [za,z8,reduceIte,Nat.reduceEqDiff]);(try ((repeat ((fail_if_success (refine hK _ ?_));clear hK K));refine hK _ ?_;clear hK K))))
  cases o with
  | true =>
   have hsub:=z0Q (show 0<ev.length by omega) (show ev.length<1152921504606846976 by omega)
   have hl0:(0:Int)≤((ev.length-1:Nat):Int):=by omega
   have hle:((ev.length-1:Nat):Int)≤(ev.length:Int):=by omega
   have htk:=rowZ_take ev (ev.length-1)
   have htl:(ev.take (ev.length-1)).length=ev.length-1:=by rw [List.length_take];omega
   have hzl2:=z1A (ev.take (ev.length-1))
   rw [htl] at hzl2
   repeat' (first|refine T.zh fun K hK=>?_|refine T.block ?_|(refine T.reg (by kernel_rfl) fun K' hK'=>?_;simp only [bz];(repeat' (first|(with_reducible refine WL.fin ?_;refine hK' _ ?_;clear hK' K')|((with_reducible refine WL.step fun K2 hK2=>?_);simp only [simprocAttr,implies_true,amz,tys,hzl,hsub,hl0,Int.toNat_natCast,hle,htk,hzl2,List.drop_zero];(repeat' with_reducible (first|(refine hK2 _ ?_;clear hK2 K2)|refine And.intro ?_ ?_|intro hb))))))|refine T.skip ?_|refine T.exit ?_|refine T.zf rfl ?_|refine T.ze rfl ?_|refine T.cond rfl (fun hc=>?_) (fun hc=>?_)|refine T.ret ?_|simp only [za,z8,reduceIte,Nat.reduceEqDiff]|((repeat ((fail_if_success (refine hK _ ?_));clear hK K));refine hK _ ?_;clear hK K))
   refine T.qc (fun k:Nat=>⟨[(1,.int I),(2,.int J),(7,.ptr 0 0),(9,.p (.seq 1 BP)),(14,.int (ev.length-1:Nat)),(67,.p (.seq 1 (rowZ (ev.take (ev.length-1))))),(68,.int (ev.length-1:Nat)),(69,.int k)],[(0,.boxP none 26 [.bool true,.p (.seq 1 (rowZ ev))])],182,1⟩) (fun k=>k≤ev.length-1 ∧ ∀ q a b,q<k→ev[q]? = some a→ev[q+1]? = some b→(zs (befL l b.toNat)).contains a=true) (fun k=>ev.length-k) 0 ⟨Nat.zero_le _,fun q a b hq=>by omega⟩ (by refine zk.of' rfl ?_;simp only [wks,reduceIte,Nat.reduceEqDiff,ASt.okB,AV.okB,Nat.reduceLT,implies_true,Int.natCast_zero]) ?_
   rintro k ⟨hk,hch⟩ KL hKL
   by_cases hkn:k<ev.length-1
   ·have hd:decide ((k:Int)<((ev.length-1:Nat):Int))=true:=by simp;omega
    have hk0:(0:Int)≤(k:Int):=by omega
    have hk1:(0:Int)≤((k+1:Nat):Int):=by omega
    obtain ⟨x,hx⟩:=zT (show k<ev.length by omega)
    obtain ⟨y,hy⟩:=zT (show k+1<ev.length by omega)
    have hx2:(ev.take (ev.length-1))[k]? = some x:=by rw [List.getElem?_take,if_pos hkn];exact hx
    have m1:=qN hx2
    have m2:=qN hy
    have hyr:=hrg y (List.mem_of_getElem? hy)
    have hb1:=hba y.toNat (by omega)
    have hbl:=z7x l y.toNat
    rw [rowI_Z] at hb1
    have hc:=z8S (zs (befL l y.toNat)) x (by simp only [zs,List.length_map];omega)
    cases hcb:(zs (befL l y.toNat)).contains x with
    | true =>
     rw [hcb] at hc
     repeat' (first|refine T.zh fun K hK=>?_|refine T.block ?_|(refine T.reg (by kernel_rfl) fun K' hK'=>?_;simp only [bz];(repeat' (first|(with_reducible refine WL.fin ?_;refine hK' _ ?_;clear hK' K')|((with_reducible refine WL.step fun K2 hK2=>?_);simp only [simprocAttr,implies_true,amz,tys,hd,hk0,hk1,Int.toNat_natCast,m1,m2,hyr.1,hb1,zm (show k<1152921504606846976 by omega),Bool.not_true];(repeat' (first|with_reducible (first|(refine hK2 _ ?_;clear hK2 K2)|refine And.intro ?_ ?_|intro hb)|((first|(with_reducible apply zg)|(with_reducible apply zl));case h=>exact CallV.plain (Ent.of Try.func28 (by kernel_rfl) rfl) (hc) (by simp [AV.okB]))))))))|refine T.skip ?_|refine T.exit ?_|refine T.zf rfl ?_|refine T.ze rfl ?_|refine T.cond rfl (fun hc=>?_) (fun hc=>?_)|refine T.ret ?_|simp only [za,z8,reduceIte,Nat.reduceEqDiff]|((repeat ((fail_if_success (refine hK _ ?_));clear hK K));refine hK _ ?_;clear hK K))
     refine hKL _ (k+1) ?_ ⟨hkn,fun q a b hq ha hb=>?_⟩ (by omega)
     ·refine zk.of' rfl ?_;simp only [wks,reduceIte,Nat.reduceEqDiff,ASt.okB,AV.okB,Nat.reduceLT,implies_true,]
     ·by_cases e:q=k
      ·subst e
       rw [hx] at ha;rw [hy] at hb
       cases ha;cases hb;exact hcb
      ·exact hch q a b (by omega) ha hb
    | false =>
     rw [hcb] at hc
     have hB:chkB l I J true ev=false:=zV fun h=>by
      have h1:=h.inc k x y hx hy
      have h2:=h.imm rfl k x y hx hy
      have h3:=hrg x (List.mem_of_getElem? hx)
      have h4:(zs (befL l y.toNat)).contains x=true:=befZ.2 ⟨x.toNat,by omega,by omega,h2⟩
      rw [hcb] at h4;cases h4
     repeat' (first|refine T.zh fun K hK=>?_|refine T.block ?_|(refine T.reg (by kernel_rfl) fun K' hK'=>?_;simp only [bz];(repeat' (first|(with_reducible refine WL.fin ?_;refine hK' _ ?_;clear hK' K')|((with_reducible refine WL.step fun K2 hK2=>?_);simp only [simprocAttr,implies_true,amz,tys,hd,hk0,hk1,Int.toNat_natCast,m1,m2,hyr.1,hb1,zm (show k<1152921504606846976 by omega),Bool.not_false];(repeat' (first|with_reducible (first|(refine hK2 _ ?_;clear hK2 K2)|refine And.intro ?_ ?_|intro hb)|((first|(with_reducible apply zg)|(with_reducible apply zl));case h=>exact CallV.plain (Ent.of Try.func28 (by kernel_rfl) rfl) (hc) (by simp [AV.okB]))))))))|refine T.skip ?_|refine T.exit ?_|refine T.zf rfl ?_|refine T.ze rfl ?_|refine T.cond rfl (fun hc=>?_) (fun hc=>?_)|refine T.ret ?_|simp only [za,z8,reduceIte,Nat.reduceEqDiff]|((repeat ((fail_if_success (refine hK _ ?_));clear hK K));refine hK _ ?_;clear hK K))
     all_goals (refine zy.ret (.inr rfl) Try.results15 ?_;simp only [zu,zo,zn,simprocAttr,implies_true,amz,tys,hB])
   have hd:decide ((k:Int)<((ev.length-1:Nat):Int))=false:=by simp;omega
   obtain ⟨x,hx⟩:=zT (show 0<ev.length by omega)
   obtain ⟨y,hy⟩:=zT (show ev.length-1<ev.length by omega)
   have m1:=qN hx
   have m2:=qN hy
   have ht0:(0:Int).toNat=0:=rfl
   have hB:chkB l I J true ev=((x==(I:Int))&&(y==(J:Int))):=by
    rw [Bool.eq_iff_iff,z9Z,Bool.and_eq_true,beq_iff_eq,beq_iff_eq]
    constructor
    ·intro h
     have h1:=h.fst rfl
     have h2:=h.lst rfl
     rw [hx] at h1;rw [hy] at h2
     cases h1;cases h2;exact ⟨rfl,rfl⟩
    ·rintro ⟨rfl,rfl⟩
     have key : ∀ q a b,ev[q]? = some a→ev[q+1]? = some b→a<b∧qi l a.toNat b.toNat=true:=fun q a b ha hb=>by
      have hq:=(List.getElem?_eq_some_iff.1 hb).1
      obtain ⟨m,rfl,h1,h2⟩:=befZ.1 (hch q a b (by omega) ha hb)
      exact ⟨by omega,by rw [Int.toNat_natCast];exact h2⟩
     exact ⟨hpp,hrg,fun q a b ha hb=>(key q a b ha hb).1,fun _=>hx,fun _=>hy,fun _ q a b ha hb=>(key q a b ha hb).2,fun h=>(by cases h),fun h=>(by cases h),fun h=>(by cases h)⟩
   cases e1:(x==(I:Int)) <;> cases e2:(y==(J:Int))
   all_goals (rw [e1,e2] at hB)
   all_goals (repeat' (first|refine T.zh fun K hK=>?_|refine T.block ?_|(refine T.reg (by kernel_rfl) fun K' hK'=>?_;simp only [bz];(repeat' (first|(with_reducible refine WL.fin ?_;refine hK' _ ?_;clear hK' K')|((with_reducible refine WL.step fun K2 hK2=>?_);simp only [simprocAttr,implies_true,amz,tys,hd,ht0,hl0,Int.toNat_natCast,m1,m2,e1,e2];(repeat' with_reducible (first|(refine hK2 _ ?_;clear hK2 K2)|refine And.intro ?_ ?_|intro hb))))))|refine T.skip ?_|refine T.exit ?_|refine T.zf rfl ?_|refine T.ze rfl ?_|refine T.cond rfl (fun hc=>?_) (fun hc=>?_)|refine T.ret ?_|simp only [za,z8,reduceIte,Nat.reduceEqDiff]|((repeat ((fail_if_success (refine hK _ ?_));clear hK K));refine hK _ ?_;clear hK K)))
   all_goals (refine zy.ret (.inr rfl) Try.results15 ?_;simp only [zu,zo,zn,simprocAttr,implies_true,amz,tys,hB,Bool.and_true,Bool.and_false])
  | false =>
   have hml:n≤maxLen:=by unfold maxLen;omega
   have hmb:n≤140737488355328:=by omega
   have hI0:(0:Int)≤(I:Int):=by omega
   have hJ0:(0:Int)≤(J:Int):=by omega
   rw [← hnl] at hlm
   repeat' (first|refine T.zh fun K hK=>?_|refine T.block ?_|(refine T.reg (by kernel_rfl) fun K' hK'=>?_;simp only [bz];(repeat' (first|(with_reducible refine WL.fin ?_;refine hK' _ ?_;clear hK' K')|((with_reducible refine WL.step fun K2 hK2=>?_);simp only [simprocAttr,implies_true,amz,tys,hlm,hzl,hml,hmb,Nat.one_mul,Int.toNat_natCast];(repeat' with_reducible (first|(refine hK2 _ ?_;clear hK2 K2)|refine And.intro ?_ ?_|intro hb))))))|refine T.skip ?_|refine T.exit ?_|refine T.zf rfl ?_|refine T.ze rfl ?_|refine T.cond rfl (fun hc=>?_) (fun hc=>?_)|refine T.ret ?_|simp only [za,z8,reduceIte,Nat.reduceEqDiff]|((repeat ((fail_if_success (refine hK _ ?_));clear hK K));refine hK _ ?_;clear hK K))
   refine T.qc (fun k:Nat=>⟨[(0,.p (.seq 9 (l.map evC))),(1,.int I),(2,.int J),(7,.ptr 0 0),(9,.p (.seq 1 BP)),(17,.own 1),(106,.p (.seq 1 (rowZ ev))),(107,.int ev.length),(108,.int k)],[(0,.boxP none 26 [.bool false,.p (.seq 1 (rowZ ev))]),(1,.row 4 1 (rowT n (inT (ev.take k))))],182,2⟩) (fun k=>k≤ev.length ∧ ∀ q a b,q+1<k→ev[q]? = some a→ev[q+1]? = some b→a<b) (fun k=>ev.length-k) 0 ⟨Nat.zero_le _,fun q a b hq=>by omega⟩ (by refine zk.of' rfl ?_;simp only [wks,reduceIte,Nat.reduceEqDiff,ASt.okB,AV.okB,Nat.reduceLT,implies_true,Int.natCast_zero,List.take_zero,z5E]) ?_
   rintro k ⟨hk,hinc⟩ KL hKL
   by_cases hkn:k<ev.length
   ·have hd:decide ((k:Int)<(ev.length:Int))=true:=by simpa using hkn
    have hk0:(0:Int)≤(k:Int):=by omega
    obtain ⟨x,hx⟩:=zT hkn
    have m1:=qN hx
    have hxr:=hrg x (List.mem_of_getElem? hx)
    have hst:=z8y (n:=n) (ev.take k) hxr.1 (by omega)
    rw [← z1t hx] at hst
    have hxn:x.toNat<n:=by omega
    by_cases hkz:k=0
    ·have hd2:decide ((0:Int)<(k:Int))=false:=by rw [hkz];rfl
     repeat' (first|refine T.zh fun K hK=>?_|refine T.block ?_|(refine T.reg (by kernel_rfl) fun K' hK'=>?_;simp only [bz];(repeat' (first|(with_reducible refine WL.fin ?_;refine hK' _ ?_;clear hK' K')|((with_reducible refine WL.step fun K2 hK2=>?_);simp only [simprocAttr,implies_true,amz,tys,hd,hk0,Int.toNat_natCast,m1,hd2,hxr.1,z0w,hxn,z2L _ hxn,hst];(repeat' with_reducible (first|(refine hK2 _ ?_;clear hK2 K2)|refine And.intro ?_ ?_|intro hb))))))|refine T.skip ?_|refine T.exit ?_|refine T.zf rfl ?_|refine T.ze rfl ?_|refine T.cond rfl (fun hc=>?_) (fun hc=>?_)|refine T.ret ?_|simp only [za,z8,reduceIte,Nat.reduceEqDiff]|((repeat ((fail_if_success (refine hK _ ?_));clear hK K));refine hK _ ?_;clear hK K))
     refine hKL _ (k+1) ?_ ⟨hkn,fun q a b hq=>by omega⟩ (by omega)
     refine zk.of' rfl ?_;simp only [wks,reduceIte,Nat.reduceEqDiff,ASt.okB,AV.okB,Nat.reduceLT,implies_true,zm (show k<1152921504606846976 by omega)]
    ·have hd2:decide ((0:Int)<(k:Int))=true:=by simp;omega
     have hwp:=z0Q (show 0<k by omega) (show k<1152921504606846976 by omega)
     have hp0:(0:Int)≤((k-1:Nat):Int):=by omega
     obtain ⟨y,hy⟩:=zT (show k-1<ev.length by omega)
     have m2:=qN hy
     have hx3:ev[(k-1)+1]? = some x:=by rw [show k-1+1=k by omega];exact hx
     cases hd3:decide (x≤y) with
     | true =>
      have hB:chkB l I J false ev=false:=zV fun h=>by
       have h1:=h.inc (k-1) y x hy hx3
       have h2:=of_decide_eq_true hd3
       omega
      repeat' (first|refine T.zh fun K hK=>?_|refine T.block ?_|(refine T.reg (by kernel_rfl) fun K' hK'=>?_;simp only [bz];(repeat' (first|(with_reducible refine WL.fin ?_;refine hK' _ ?_;clear hK' K')|((with_reducible refine WL.step fun K2 hK2=>?_);simp only [simprocAttr,implies_true,amz,tys,hd,hk0,hp0,hwp,Int.toNat_natCast,m1,m2,hd2,hd3];(repeat' with_reducible (first|(refine hK2 _ ?_;clear hK2 K2)|refine And.intro ?_ ?_|intro hb))))))|refine T.skip ?_|refine T.exit ?_|refine T.zf rfl ?_|refine T.ze rfl ?_|refine T.cond rfl (fun hc=>?_) (fun hc=>?_)|refine T.ret ?_|simp only [za,z8,reduceIte,Nat.reduceEqDiff]|((repeat ((fail_if_success (refine hK _ ?_));clear hK K));refine hK _ ?_;clear hK K))
      all_goals (refine zy.ret (.inr rfl) Try.results15 ?_;simp only [zu,zo,zn,simprocAttr,implies_true,amz,tys,hB])
     | false =>
      repeat' (first|refine T.zh fun K hK=>?_|refine T.block ?_|(refine T.reg (by kernel_rfl) fun K' hK'=>?_;simp only [bz];(repeat' (first|(with_reducible refine WL.fin ?_;refine hK' _ ?_;clear hK' K')|((with_reducible refine WL.step fun K2 hK2=>?_);simp only [simprocAttr,implies_true,amz,tys,hd,hk0,hp0,hwp,Int.toNat_natCast,m1,m2,hd2,hd3,hxr.1,z0w,hxn,z2L _ hxn,hst];(repeat' with_reducible (first|(refine hK2 _ ?_;clear hK2 K2)|refine And.intro ?_ ?_|intro hb))))))|refine T.skip ?_|refine T.exit ?_|refine T.zf rfl ?_|refine T.ze rfl ?_|refine T.cond rfl (fun hc=>?_) (fun hc=>?_)|refine T.ret ?_|simp only [za,z8,reduceIte,Nat.reduceEqDiff]|((repeat ((fail_if_success (refine hK _ ?_));clear hK K));refine hK _ ?_;clear hK K))
      refine hKL _ (k+1) ?_ ⟨hkn,fun q a b hq ha hb=>?_⟩ (by omega)
      ·refine zk.of' rfl ?_;simp only [wks,reduceIte,Nat.reduceEqDiff,ASt.okB,AV.okB,Nat.reduceLT,implies_true,zm (show k<1152921504606846976 by omega)]
      ·by_cases e:q=k-1
       ·subst e
        rw [hy] at ha;rw [hx3] at hb
        cases ha;cases hb
        have h2:=of_decide_eq_false hd3
        omega
       ·exact hinc q a b (by omega) ha hb
   have hd:decide ((k:Int)<(ev.length:Int))=false:=by simpa using hkn
   have hke:k=ev.length:=by omega
   rw [hke,List.take_length]
   rw [hke] at hd
   have hin : ∀ q a b,ev[q]? = some a→ev[q+1]? = some b→a<b:=fun q a b ha hb=>hinc q a b (by have:=(List.getElem?_eq_some_iff.1 hb).1;omega) ha hb
   have hIn:I<n:=by omega
   have hJn:J<n:=by omega
   have mI:=z2L (inT ev) hIn
   have mJ:=z2L (inT ev) hJn
   cases hcI:inT ev I with
   | true =>
    have hB:chkB l I J false ev=false:=zV fun h=>h.noI rfl (z1M.1 hcI)
    rw [hcI] at mI
    repeat' (first|refine T.zh fun K hK=>?_|refine T.block ?_|(refine T.reg (by kernel_rfl) fun K' hK'=>?_;simp only [bz];(repeat' (first|(with_reducible refine WL.fin ?_;refine hK' _ ?_;clear hK' K')|((with_reducible refine WL.step fun K2 hK2=>?_);simp only [simprocAttr,implies_true,amz,tys,hd,hI0,Int.toNat_natCast,z0w,hIn,mI];(repeat' with_reducible (first|(refine hK2 _ ?_;clear hK2 K2)|refine And.intro ?_ ?_|intro hb))))))|refine T.skip ?_|refine T.exit ?_|refine T.zf rfl ?_|refine T.ze rfl ?_|refine T.cond rfl (fun hc=>?_) (fun hc=>?_)|refine T.ret ?_|simp only [za,z8,reduceIte,Nat.reduceEqDiff]|((repeat ((fail_if_success (refine hK _ ?_));clear hK K));refine hK _ ?_;clear hK K))
    all_goals (refine zy.ret (.inr rfl) Try.results15 ?_;simp only [zu,zo,zn,simprocAttr,implies_true,amz,tys,hB])
   | false =>
    rw [hcI] at mI
    cases hcJ:inT ev J with
    | false =>
     have hB:chkB l I J false ev=false:=zV fun h=>by have:=z1M.2 (h.hasJ rfl);rw [hcJ] at this;cases this
     rw [hcJ] at mJ
     repeat' (first|refine T.zh fun K hK=>?_|refine T.block ?_|(refine T.reg (by kernel_rfl) fun K' hK'=>?_;simp only [bz];(repeat' (first|(with_reducible refine WL.fin ?_;refine hK' _ ?_;clear hK' K')|((with_reducible refine WL.step fun K2 hK2=>?_);simp only [simprocAttr,implies_true,amz,tys,hd,hI0,hJ0,Int.toNat_natCast,z0w,hIn,hJn,mI,mJ,Bool.not_false];(repeat' with_reducible (first|(refine hK2 _ ?_;clear hK2 K2)|refine And.intro ?_ ?_|intro hb))))))|refine T.skip ?_|refine T.exit ?_|refine T.zf rfl ?_|refine T.ze rfl ?_|refine T.cond rfl (fun hc=>?_) (fun hc=>?_)|refine T.ret ?_|simp only [za,z8,reduceIte,Nat.reduceEqDiff]|((repeat ((fail_if_success (refine hK _ ?_));clear hK K));refine hK _ ?_;clear hK K))
     all_goals (refine zy.ret (.inr rfl) Try.results15 ?_;simp only [zu,zo,zn,simprocAttr,implies_true,amz,tys,hB])
    | true =>
     rw [hcJ] at mJ
     repeat' (first|refine T.zh fun K hK=>?_|refine T.block ?_|(refine T.reg (by kernel_rfl) fun K' hK'=>?_;simp only [bz];(repeat' (first|(with_reducible refine WL.fin ?_;refine hK' _ ?_;clear hK' K')|((with_reducible refine WL.step fun K2 hK2=>?_);simp only [simprocAttr,implies_true,amz,tys,hd,hI0,hJ0,Int.toNat_natCast,z0w,hIn,hJn,mI,mJ,Bool.not_true,hlm,hzl,hml,hmb,Nat.one_mul];(repeat' with_reducible (first|(refine hK2 _ ?_;clear hK2 K2)|refine And.intro ?_ ?_|intro hb))))))|refine T.skip ?_|refine T.exit ?_|refine T.zf rfl ?_|refine T.ze rfl ?_|refine T.cond rfl (fun hc=>?_) (fun hc=>?_)|refine T.ret ?_|simp only [za,z8,reduceIte,Nat.reduceEqDiff]|((repeat ((fail_if_success (refine hK _ ?_));clear hK K));refine hK _ ?_;clear hK K))
     refine T.qc (fun p:Nat × (Nat→Bool)=>⟨[(7,.ptr 0 0),(9,.p (.seq 1 BP)),(17,.own 1),(20,.suf 2 1 0),(144,.p (.seq 1 (rowZ ev))),(145,.int ev.length),(146,.int p.1)],[(0,.boxP none 26 [.bool false,.p (.seq 1 (rowZ ev))]),(1,.row 4 1 (rowT n (inT ev))),(2,.row 4 1 (rowT n p.2))],182,3⟩) (fun p=>p.1≤ev.length ∧ ∀ x ∈ ev.take p.1,∀ m:Nat,(m:Int)<x→qi l m x.toNat=true→(m:Int) ∈ ev) (fun p=>ev.length-p.1) (0,inT []) ⟨Nat.zero_le _,by simp⟩ (by refine zk.of' rfl ?_;simp only [wks,reduceIte,Nat.reduceEqDiff,ASt.okB,AV.okB,Nat.reduceLT,implies_true,Int.natCast_zero,z5E,AVle.ownSuf]) ?_
     rintro ⟨c,f⟩ ⟨hc,hcl⟩ KL3 hKL3
     simp only at hc hcl hKL3 ⊢
     by_cases hcn:c<ev.length
     ·have hd4:decide ((c:Int)<(ev.length:Int))=true:=by simpa using hcn
      have hc0:(0:Int)≤(c:Int):=by omega
      obtain ⟨x,hx⟩:=zT hcn
      have m1:=qN hx
      have hts:=z1t hx
      have hxr:=hrg x (List.mem_of_getElem? hx)
      have hxl:x.toNat<l.length:=by omega
      have hb1:=hba x.toNat hxl
      have hrl:=qJ (befL l x.toNat)
      have hbk:=z7x l x.toNat
      have hn0 : 0<n:=by omega
      have hrep:List.replicate n [PV.val (.bool false)]=rowT n (inT []):=(z5E n).symm
      repeat' (first|refine T.zh fun K hK=>?_|refine T.block ?_|(refine T.reg (by kernel_rfl) fun K' hK'=>?_;simp only [bz];(repeat' (first|(with_reducible refine WL.fin ?_;refine hK' _ ?_;clear hK' K')|((with_reducible refine WL.step fun K2 hK2=>?_);simp only [simprocAttr,implies_true,amz,tys,hd4,hc0,Int.toNat_natCast,m1,z0w,hn0,List.take_zero,List.nil_append,Nat.sub_zero,hxr.1,hb1,hrl];(repeat' with_reducible (first|(refine hK2 _ ?_;clear hK2 K2)|refine And.intro ?_ ?_|intro hb))))))|refine T.skip ?_|refine T.exit ?_|refine T.zf rfl ?_|refine T.ze rfl ?_|refine T.cond rfl (fun hc=>?_) (fun hc=>?_)|refine T.ret ?_|simp only [za,z8,reduceIte,Nat.reduceEqDiff]|((repeat ((fail_if_success (refine hK _ ?_));clear hK K));refine hK _ ?_;clear hK K))
      obtain ⟨S,hS⟩ : ∃ S,S=befL l x.toNat:=⟨_,rfl⟩
      rw [← hS] at hb1 hrl hbk
      have hSn : ∀ p ∈ S,p<n:=fun p hp=>by rw [hS] at hp;have:=(z2E.1 hp).1;omega
      refine T.weak (s':=⟨[(7,.ptr 0 0),(9,.p (.seq 1 BP)),(17,.own 1),(20,.suf 2 1 0),(144,.p (.seq 1 (rowZ ev))),(145,.int ev.length),(146,.int c),(154,.p (.seq 1 (qw S))),(155,.int S.length),(156,.int (0:Nat))],[(0,.boxP none 26 [.bool false,.p (.seq 1 (rowZ ev))]),(1,.row 4 1 (rowT n (inT ev))),(2,.row 4 1 (rowT n (inT [])))],182,3⟩) (by refine zk.of' rfl ?_;simp only [wks,reduceIte,Nat.reduceEqDiff,ASt.okB,AV.okB,Nat.reduceLT,implies_true,Int.natCast_zero,z5E,hS]) ?_
      refine T.qc (fun q:Nat=>⟨[(7,.ptr 0 0),(9,.p (.seq 1 BP)),(17,.own 1),(20,.suf 2 1 0),(144,.p (.seq 1 (rowZ ev))),(145,.int ev.length),(146,.int c),(154,.p (.seq 1 (qw S))),(155,.int S.length),(156,.int q)],[(0,.boxP none 26 [.bool false,.p (.seq 1 (rowZ ev))]),(1,.row 4 1 (rowT n (inT ev))),(2,.row 4 1 (rowT n (inT (zs (S.take q)))))],182,3⟩) (fun q=>q≤S.length) (fun q=>S.length-q) 0 (Nat.zero_le _) (by refine zk.of' rfl ?_;simp only [wks,reduceIte,Nat.reduceEqDiff,ASt.okB,AV.okB,Nat.reduceLT,implies_true,List.take_zero,zs,List.map_nil]) ?_
      intro q hq KL4 hKL4
      by_cases hqn:q<S.length
      ·have hd5:decide ((q:Int)<(S.length:Int))=true:=by simpa using hqn
       have hq0:(0:Int)≤(q:Int):=by omega
       obtain ⟨p,hp⟩:=zT hqn
       have p1:=z3v hp
       have hpn:=hSn p (List.mem_of_getElem? hp)
       have hp0:(0:Int)≤(p:Int):=by omega
       have hst:(rowT n (inT (zs (S.take q)))).set p [PV.val (.bool true)]=rowT n (inT (zs (S.take (q+1)))):=by
        have h1:=z8y (n:=n) (zs (S.take q)) (x:=(p:Int)) hp0 (by omega)
        rw [Int.toNat_natCast] at h1
        rw [h1,z1t hp]
        simp [zs]
       repeat' (first|refine T.zh fun K hK=>?_|refine T.block ?_|(refine T.reg (by kernel_rfl) fun K' hK'=>?_;simp only [bz];(repeat' (first|(with_reducible refine WL.fin ?_;refine hK' _ ?_;clear hK' K')|((with_reducible refine WL.step fun K2 hK2=>?_);simp only [simprocAttr,implies_true,amz,tys,hd5,hq0,hp0,Int.toNat_natCast,p1,z0w,Nat.add_zero,Nat.zero_add,Nat.sub_zero,hpn,z2L _ hpn,hst];(repeat' with_reducible (first|(refine hK2 _ ?_;clear hK2 K2)|refine And.intro ?_ ?_|intro hb))))))|refine T.skip ?_|refine T.exit ?_|refine T.zf rfl ?_|refine T.ze rfl ?_|refine T.cond rfl (fun hc=>?_) (fun hc=>?_)|refine T.ret ?_|simp only [za,z8,reduceIte,Nat.reduceEqDiff]|((repeat ((fail_if_success (refine hK _ ?_));clear hK K));refine hK _ ?_;clear hK K))
       refine hKL4 _ (q+1) ?_ hqn (by omega)
       refine zk.of' rfl ?_;simp only [wks,reduceIte,Nat.reduceEqDiff,ASt.okB,AV.okB,Nat.reduceLT,implies_true,zm (show q<1152921504606846976 by omega)]
      have hd5:decide ((q:Int)<(S.length:Int))=false:=by simpa using hqn
      rw [show q=S.length by omega] at hd5 ⊢
      rw [List.take_length]
      have hrn:=z0w n (inT (zs S))
      repeat' (first|refine T.zh fun K hK=>?_|refine T.block ?_|refine T.skip ?_|refine T.exit ?_|refine T.zf rfl ?_|refine T.ze rfl ?_|refine T.cond rfl (fun hc=>?_) (fun hc=>?_)|refine T.ret ?_|simp only [za,z8,reduceIte,Nat.reduceEqDiff]|((repeat ((fail_if_success (refine hK _ ?_));clear hK K));refine hK _ ?_;clear hK K))
      (refine T.reg (by kernel_rfl) fun K' hK'=>?_;simp only [bz];(repeat' (first|(with_reducible refine WL.fin ?_;refine hK' _ ?_;clear hK' K')|((with_reducible refine WL.step fun K2 hK2=>?_);simp only [simprocAttr,implies_true,amz,tys,hd5];(repeat' with_reducible (first|(refine hK2 _ ?_;clear hK2 K2)|refine And.intro ?_ ?_|intro hb)))));all_goals ((try simp only [za,z8,reduceIte,Nat.reduceEqDiff]);(try ((repeat ((fail_if_success (refine hK _ ?_));clear hK K));refine hK _ ?_;clear hK K))))
      repeat' (first|refine T.zh fun K hK=>?_|refine T.block ?_|refine T.skip ?_|refine T.exit ?_|refine T.zf rfl ?_|refine T.ze rfl ?_|refine T.cond rfl (fun hc=>?_) (fun hc=>?_)|refine T.ret ?_|simp only [za,z8,reduceIte,Nat.reduceEqDiff]|((repeat ((fail_if_success (refine hK _ ?_));clear hK K));refine hK _ ?_;clear hK K))
      (refine T.reg (by kernel_rfl) fun K' hK'=>?_;simp only [bz];(repeat' (first|(with_reducible refine WL.fin ?_;refine hK' _ ?_;clear hK' K')|((with_reducible refine WL.step fun K2 hK2=>?_);simp only [simprocAttr,implies_true,amz,tys,hrn,hn0,Option.map_some,Nat.sub_zero,Nat.zero_le];(repeat' with_reducible (first|(refine hK2 _ ?_;clear hK2 K2)|refine And.intro ?_ ?_|intro hb)))));all_goals ((try simp only [za,z8,reduceIte,Nat.reduceEqDiff]);(try ((repeat ((fail_if_success (refine hK _ ?_));clear hK K));refine hK _ ?_;clear hK K))))
      repeat' (first|refine T.zh fun K hK=>?_|refine T.block ?_|refine T.skip ?_|refine T.exit ?_|refine T.zf rfl ?_|refine T.ze rfl ?_|refine T.cond rfl (fun hc=>?_) (fun hc=>?_)|refine T.ret ?_|simp only [za,z8,reduceIte,Nat.reduceEqDiff]|((repeat ((fail_if_success (refine hK _ ?_));clear hK K));refine hK _ ?_;clear hK K))
      refine T.qc (fun q:Nat=>⟨[(7,.ptr 0 0),(9,.p (.seq 1 BP)),(17,.own 1),(20,.suf 2 1 0),(144,.p (.seq 1 (rowZ ev))),(145,.int ev.length),(146,.int c),(165,.int n),(166,.int q)],[(0,.boxP none 26 [.bool false,.p (.seq 1 (rowZ ev))]),(1,.row 4 1 (rowT n (inT ev))),(2,.row 4 1 (rowT n (inT (zs S))))],182,3⟩) (fun q=>q≤n ∧ ∀ m:Nat,m<q→m ∈ S→(m:Int) ∈ ev) (fun q=>n-q) 0 ⟨Nat.zero_le _,fun m hm=>by omega⟩ (by refine zk.of' rfl ?_;simp only [wks,reduceIte,Nat.reduceEqDiff,ASt.okB,AV.okB,Nat.reduceLT,implies_true,Int.natCast_zero]) ?_
      rintro q ⟨hq,hcq⟩ KL5 hKL5
      by_cases hqn:q<n
      ·have hd6:decide ((q:Int)<(n:Int))=true:=by simpa using hqn
       have hq0:(0:Int)≤(q:Int):=by omega
       have q1:=z2L (inT (zs S)) hqn
       have q2:=z2L (inT ev) hqn
       have hwq:=zm (show q<1152921504606846976 by omega)
       cases c1:inT (zs S) q with
       | false =>
        rw [c1] at q1
        repeat' (first|refine T.zh fun K hK=>?_|refine T.block ?_|(refine T.reg (by kernel_rfl) fun K' hK'=>?_;simp only [bz];(repeat' (first|(with_reducible refine WL.fin ?_;refine hK' _ ?_;clear hK' K')|((with_reducible refine WL.step fun K2 hK2=>?_);simp only [simprocAttr,implies_true,amz,tys,hd6,hq0,Int.toNat_natCast,q1,z0w,Nat.add_zero,Nat.zero_add,Nat.sub_zero,hqn];(repeat' with_reducible (first|(refine hK2 _ ?_;clear hK2 K2)|refine And.intro ?_ ?_|intro hb))))))|refine T.skip ?_|refine T.exit ?_|refine T.zf rfl ?_|refine T.ze rfl ?_|refine T.cond rfl (fun hc=>?_) (fun hc=>?_)|refine T.ret ?_|simp only [za,z8,reduceIte,Nat.reduceEqDiff]|((repeat ((fail_if_success (refine hK _ ?_));clear hK K));refine hK _ ?_;clear hK K))
        refine hKL5 _ (q+1) ?_ ⟨hqn,fun m hm hmS=>?_⟩ (by omega)
        ·refine zk.of' rfl ?_;simp only [wks,reduceIte,Nat.reduceEqDiff,ASt.okB,AV.okB,Nat.reduceLT,implies_true,hwq]
        ·by_cases e:m=q
         ·subst e
          have:=z1M.2 (z9q hmS)
          rw [c1] at this;cases this
         ·exact hcq m (by omega) hmS
       | true =>
        rw [c1] at q1
        cases c2:inT ev q with
        | true =>
         rw [c2] at q2
         repeat' (first|refine T.zh fun K hK=>?_|refine T.block ?_|(refine T.reg (by kernel_rfl) fun K' hK'=>?_;simp only [bz];(repeat' (first|(with_reducible refine WL.fin ?_;refine hK' _ ?_;clear hK' K')|((with_reducible refine WL.step fun K2 hK2=>?_);simp only [simprocAttr,implies_true,amz,tys,hd6,hq0,Int.toNat_natCast,q1,q2,z0w,Nat.add_zero,Nat.zero_add,Nat.sub_zero,hqn,Bool.not_true];(repeat' with_reducible (first|(refine hK2 _ ?_;clear hK2 K2)|refine And.intro ?_ ?_|intro hb))))))|refine T.skip ?_|refine T.exit ?_|refine T.zf rfl ?_|refine T.ze rfl ?_|refine T.cond rfl (fun hc=>?_) (fun hc=>?_)|refine T.ret ?_|simp only [za,z8,reduceIte,Nat.reduceEqDiff]|((repeat ((fail_if_success (refine hK _ ?_));clear hK K));refine hK _ ?_;clear hK K))
         refine hKL5 _ (q+1) ?_ ⟨hqn,fun m hm hmS=>?_⟩ (by omega)
         ·refine zk.of' rfl ?_;simp only [wks,reduceIte,Nat.reduceEqDiff,ASt.okB,AV.okB,Nat.reduceLT,implies_true,hwq]
         ·by_cases e:m=q
          ·subst e;exact z1M.1 c2
          ·exact hcq m (by omega) hmS
        | false =>
         have hB:chkB l I J false ev=false:=zV fun h=>by
          obtain ⟨m,h1,h2⟩:=z6a (z1M.1 c1)
          have h3:q=m:=by omega
          subst h3
          rw [hS] at h1
          obtain ⟨h4,h5⟩:=z2E.1 h1
          have h6:=z1M.2 (h.cls rfl x (List.mem_of_getElem? hx) q (by omega) h5)
          rw [c2] at h6;cases h6
         rw [c2] at q2
         repeat' (first|refine T.zh fun K hK=>?_|refine T.block ?_|(refine T.reg (by kernel_rfl) fun K' hK'=>?_;simp only [bz];(repeat' (first|(with_reducible refine WL.fin ?_;refine hK' _ ?_;clear hK' K')|((with_reducible refine WL.step fun K2 hK2=>?_);simp only [simprocAttr,implies_true,amz,tys,hd6,hq0,Int.toNat_natCast,q1,q2,z0w,Nat.add_zero,Nat.zero_add,Nat.sub_zero,hqn,Bool.not_false];(repeat' with_reducible (first|(refine hK2 _ ?_;clear hK2 K2)|refine And.intro ?_ ?_|intro hb))))))|refine T.skip ?_|refine T.exit ?_|refine T.zf rfl ?_|refine T.ze rfl ?_|refine T.cond rfl (fun hc=>?_) (fun hc=>?_)|refine T.ret ?_|simp only [za,z8,reduceIte,Nat.reduceEqDiff]|((repeat ((fail_if_success (refine hK _ ?_));clear hK K));refine hK _ ?_;clear hK K))
         all_goals (refine zy.ret (.inr rfl) Try.results15 ?_;simp only [zu,zo,zn,simprocAttr,implies_true,amz,tys,hB])
      have hd6:decide ((q:Int)<(n:Int))=false:=by simpa using hqn
      repeat' (first|refine T.zh fun K hK=>?_|refine T.block ?_|(refine T.reg (by kernel_rfl) fun K' hK'=>?_;simp only [bz];(repeat' (first|(with_reducible refine WL.fin ?_;refine hK' _ ?_;clear hK' K')|((with_reducible refine WL.step fun K2 hK2=>?_);simp only [simprocAttr,implies_true,amz,tys,hd6];(repeat' with_reducible (first|(refine hK2 _ ?_;clear hK2 K2)|refine And.intro ?_ ?_|intro hb))))))|refine T.skip ?_|refine T.exit ?_|refine T.zf rfl ?_|refine T.ze rfl ?_|refine T.cond rfl (fun hc=>?_) (fun hc=>?_)|refine T.ret ?_|simp only [za,z8,reduceIte,Nat.reduceEqDiff]|((repeat ((fail_if_success (refine hK _ ?_));clear hK K));refine hK _ ?_;clear hK K))
      refine hKL3 _ (c+1,inT (zs S)) ?_ ⟨hcn,fun y hy m hm him=>?_⟩ (by simp only;omega)
      ·refine zk.of' rfl ?_;simp only [wks,reduceIte,Nat.reduceEqDiff,ASt.okB,AV.okB,Nat.reduceLT,implies_true,zm (show c<1152921504606846976 by omega)]
      ·simp only at hy
       rw [hts,List.mem_append,List.mem_singleton] at hy
       rcases hy with hy|rfl
       ·exact hcl y hy m hm him
       ·exact hcq m (by omega) (by rw [hS];exact z2E.2 ⟨by omega,him⟩)
     have hd4:decide ((c:Int)<(ev.length:Int))=false:=by simpa using hcn
     have hB:chkB l I J false ev=true:=z1x (by
      rw [show c=ev.length by omega,List.take_length] at hcl
      exact ⟨hpp,hrg,hin,fun h=>(by cases h),fun h=>(by cases h),fun h=>(by cases h),fun _ h=>(by have:=z1M.2 h;rw [hcI] at this;cases this),fun _=>z1M.1 hcJ,fun _=>hcl⟩)
     repeat' (first|refine T.zh fun K hK=>?_|refine T.block ?_|(refine T.reg (by kernel_rfl) fun K' hK'=>?_;simp only [bz];(repeat' (first|(with_reducible refine WL.fin ?_;refine hK' _ ?_;clear hK' K')|((with_reducible refine WL.step fun K2 hK2=>?_);simp only [simprocAttr,implies_true,amz,tys,hd4];(repeat' with_reducible (first|(refine hK2 _ ?_;clear hK2 K2)|refine And.intro ?_ ?_|intro hb))))))|refine T.skip ?_|refine T.exit ?_|refine T.zf rfl ?_|refine T.ze rfl ?_|refine T.cond rfl (fun hc=>?_) (fun hc=>?_)|refine T.ret ?_|simp only [za,z8,reduceIte,Nat.reduceEqDiff]|((repeat ((fail_if_success (refine hK _ ?_));clear hK K));refine hK _ ?_;clear hK K))
     all_goals (refine zy.ret (.inr rfl) Try.results15 ?_;simp only [zu,zo,zn,simprocAttr,implies_true,amz,tys,hB])
theorem z9g (o:Bool) (r:List Nat) (hr:r.length≤1000000000000):zq Try.prog 12 [rsnN o r,rsnN o r] (.bool true):=by
 have hs:=z95 r hr
 refine zq.of Try.func12 rfl 17 rfl (by decide) (by simp [AV.okB,rsnN]) ?_
 simp only [rsnN]
 have ht:(o==o)=true:=by simp
 repeat' (first|refine T.zh fun K hK=>?_|refine T.block ?_|(refine T.reg (by kernel_rfl) fun K' hK'=>?_;simp only [bz];(repeat' (first|(with_reducible refine WL.fin ?_;refine hK' _ ?_;clear hK' K')|((with_reducible refine WL.step fun K2 hK2=>?_);simp only [simprocAttr,implies_true,amz,tys,ht];(repeat' (first|with_reducible (first|(refine hK2 _ ?_;clear hK2 K2)|refine And.intro ?_ ?_|intro hb)|((first|(with_reducible apply zg)|(with_reducible apply zl));case h=>exact CallV.plain (Ent.of Try.func25 (by kernel_rfl) rfl) (hs) (by simp [AV.okB]))))))))|refine T.skip ?_|refine T.exit ?_|refine T.zf rfl ?_|refine T.ze rfl ?_|refine T.cond rfl (fun hc=>?_) (fun hc=>?_)|refine T.ret ?_|simp only [za,z8,reduceIte,Nat.reduceEqDiff]|((repeat ((fail_if_success (refine hK _ ?_));clear hK K));refine hK _ ?_;clear hK K))
 refine zy.ret (.inr rfl) Try.results12 ?_;simp only [zu,zo,zn,simprocAttr,implies_true,amz,tys,]
def xlL:List Ev := [⟨0,14,0,0,1,0,0,0,0⟩,⟨0,6,1,0,0,0,0,0,0⟩,⟨0,2,2,0,0,0,0,0,0⟩,⟨0,7,1,0,0,0,0,0,0⟩,⟨1,6,1,0,0,0,0,0,0⟩,⟨1,1,2,0,0,0,0,0,0⟩]
def xmL:List Ev := [⟨0,14,0,0,1,0,0,0,0⟩,⟨0,2,2,0,0,0,0,0,0⟩,⟨1,1,2,0,0,0,0,0,0⟩]
theorem xl4:zO xlL 5 4=2:=by
 rw [← z4v (f:=fun n=>if n=5 then 1 else 0) (by omega) (fun n h1 h2=>by
  have:n=5:=by omega
  subst this;rw [z16];rfl)]
 decide
theorem xl3:zO xlL 5 3=3:=by
 rw [← z4v (f:=fun n=>if n=5 then 1 else if n=4 then 2 else 0) (by omega) (fun n h1 h2=>by
  have:n=4∨n=5:=by omega
  rcases this with rfl|rfl
  ·rw [xl4];rfl
  ·rw [z16];rfl)]
 decide
theorem xl2:zO xlL 5 2=4:=by
 rw [← z4v (f:=fun n=>if n=5 then 1 else if n=4 then 2 else if n=3 then 3 else 0) (by omega) (fun n h1 h2=>by
  have:n=3∨n=4∨n=5:=by omega
  rcases this with rfl|rfl|rfl
  ·rw [xl3];rfl
  ·rw [xl4];rfl
  ·rw [z16];rfl)]
 decide
theorem xn2:nxtC xlL 5 2=3:=z9P (by rw [xl2];omega) (by
  have h:qi xlL 2 3=true:=by decide
  simp [folB,h,xl2,xl3]) (fun a ha=>by
  have h : ¬ 2<a:=by omega
  simp [folB,h])
theorem xn3:nxtC xlL 5 3=4:=z9P (by rw [xl3];omega) (by
  have h:qi xlL 3 4=true:=by decide
  simp [folB,h,xl3,xl4]) (fun a ha=>by
  have h : ¬ 3<a:=by omega
  simp [folB,h])
theorem xn4:nxtC xlL 5 4=5:=z9P (by rw [xl4];omega) (by
  have h:qi xlL 4 5=true:=by decide
  simp [folB,h,xl4,z16]) (fun a ha=>by
  have h : ¬ 4<a:=by omega
  simp [folB,h])
theorem xl_plc:plcB xlL 2 5=true:=by decide
theorem z9X:plcB xmL 1 2=true:=by decide
theorem xl_o:expO xlL 2 5=true:=by
 have h:zO xlL (Int.toNat 5) (Int.toNat 2)=4:=xl2
 unfold expO;rw [h,xl_plc];rfl
theorem xl_e:expE xlL 2 5 = [2,3,4,5]:=by
 have h:zO xlL (Int.toNat 5) (Int.toNat 2)=4:=xl2
 unfold expE
 rw [if_pos xl_plc,if_pos (by rw [h];omega)]
 show chC xlL 2 5=_
 rw [chC,xl2]
 show 2 :: chT xlL 5 3 2=_
 simp only [chT,xn2,xn3,xn4]
theorem xm1:zO xmL 2 1=0:=by
 rw [← z4v (f:=fun n=>if n=2 then 1 else 0) (by omega) (fun n h1 h2=>by
  have:n=2:=by omega
  subst this;rw [z16];rfl)]
 decide
theorem xm_o:expO xmL 1 2=false:=by
 have h:zO xmL (Int.toNat 2) (Int.toNat 1)=0:=xm1
 unfold expO;rw [h,z9X];rfl
theorem xm_h1:hbB xmL 2 1=false:=by
 cases h:hbB xmL 2 1 with
 | false=>rfl
 | true=>have:=z5S.2 (.inr h);rw [xm1] at this;omega
theorem xm_h0:hbB xmL 2 0=true:=hb_imm (by omega) (by decide)
theorem xm_e:expE xmL 1 2 = [0,2]:=by
 have h:zO xmL (Int.toNat 2) (Int.toNat 1)=0:=xm1
 unfold expE
 rw [if_pos z9X,if_neg (by rw [h];omega)]
 show z1z xmL ((2:Nat):Int)=_
 unfold z1z
 rw [if_pos (by decide)]
 show rgF (hbB xmL 2) 2 ++ [2]=_
 simp [z0T,z7M,xm_h0,xm_h1]
theorem xm_c:chkB xmL 1 2 false (zs [0,2])=true:=by
 have:=z3A z9X
 rw [xm_o,xm_e] at this
 exact z1x this
end Go.Proofs.Ytdlgoofjechocaa
