/- Texts Pm, Pr, Pt, Pu, Pv. -/
import Derived.Test.YtdlgoofjechocaaZ07
set_option maxHeartbeats 32000000
set_option maxRecDepth 100000
set_option linter.unusedSimpArgs false
set_option linter.unusedVariables false
namespace Go.Proofs.Ytdlgoofjechocaa
open Go.RowKit Go.Sort Go.Maps
theorem AO.z0O (t t' : Nat) (pin:Option Nat) (ty:TypeId) (cs:List AV):AO.ren t t' (.boxP pin ty cs) = .boxP pin ty (cs.map (AV.ren t t')):=rfl
theorem AO.z0c (t t' : Nat) (e n:Nat) (rows:List (List PV)):AO.ren t t' (.row e n rows) = .row e n rows:=rfl
theorem AO.z10 (t t' : Nat) (pin:Option Nat) (P:Program) (k n:Nat) (f:Lit→Option Value):AO.ren t t' (.map pin P k n f) = .map pin P k n f:=rfl
theorem AO.z0W (t t' : Nat) (u:Value) (ob:Obj):AO.ren t t' (.raw u ob) = .raw u ob:=rfl
theorem AO.cut_box (t m:Nat) (pin:Option Nat) (ty:TypeId) (cs:List AV):AO.cut t m (.boxP pin ty cs) = .boxP pin ty (cs.map (AV.cut t m)):=rfl
theorem AO.cut_row (t m:Nat) (e n:Nat) (rows:List (List PV)):AO.cut t m (.row e n rows) = .row e n rows:=rfl
theorem AO.z1S (n:Nat) (ks:List Nat) (pin:Option Nat) (ty:TypeId) (cs:List AV):AO.keep n ks (.boxP pin ty cs) = .boxP pin ty (cs.map (AV.keep n ks)):=rfl
theorem AO.keep_map (n:Nat) (ks:List Nat) (pin:Option Nat) (P:Program) (k m:Nat) (f:Lit→Option Value):AO.keep n ks (.map pin P k m f) = .map pin P k m f:=rfl
theorem AO.z5g (b:Nat) (ty:TypeId) (cs:List AV):AO.handle (.boxP (some b) ty cs)=some (.pointer (some ⟨b,0,none⟩)):=rfl
theorem z7i {α:Type} (g : α→Value):inM g (fun _=>none)=fun _=>none:=by funext l;unfold inM;split <;> rfl
theorem z9D {α:Type} (g : α→Value):plM g (fun _ _=>none)=fun _=>none:=by funext l;unfold plM;cases unk l <;> rfl
theorem dnO_none:dnO (fun _ _=>false)=fun _ _=>none:=rfl
theorem zk.boxle (s:ASt) (t:Nat) (pin:Option Nat) (ty:TypeId) (cs cs' : List AV) (hlk:s.hp.lookup t=some (.boxP pin ty cs)) (hl:cs'.length=cs.length) (hle : ∀ (j:Nat) x',cs'[j]? = some x' → ∃ x,cs[j]? = some x∧AVle x x'):zk s { s with hp:=zG s.hp t (.boxP pin ty cs') }:=fun L loc ac w hr=>by
 refine ⟨loc,⟨hr.defers,hr.size,hr.fr,⟨fun k o hk=>?_,fun k hk=>?_,hr.hp.apart,hr.hp.inL,hr.hp.notL⟩⟩,Ext.refl _ _⟩
 ·change (zG s.hp t _).lookup k=some o at hk
  rw [zC] at hk
  by_cases e1:k=t
  ·subst e1
   rw [if_pos rfl,hlk] at hk
   cases hk
   obtain ⟨h1,u,h2,b,arr,h3,h4,h5,h6,h7,h8⟩:=hr.hp.at' k _ hlk
   refine ⟨h1,u,h2,b,arr,h3,h4,by rw [h5,hl],fun j x hx=>?_,h7,h8⟩
   obtain ⟨y,hy,hyx⟩:=hle j x hx
   exact hyx _ _ _ _ _ (h6 j y hy)
  ·rw [if_neg e1] at hk
   exact hr.hp.at' k o hk
 ·change (zG s.hp t _).lookup k=none at hk
  rw [zC] at hk
  by_cases e1:k=t
  ·subst e1;rw [if_pos rfl,hlk] at hk;cases hk
  ·rw [if_neg e1] at hk;exact hr.hp.dead k hk
theorem newS_ok:MemC Try.prog 75 4 [] [] fun hp' r => ∃ b,hp' = hpS b ps0 0 0 0∧r = .ptr 0 0:=by
 refine MemC.of Try.func75 rfl 6 rfl (by decide) ?_;simp only [z0t,frOf]
 repeat' (first|refine T.zh fun K hK=>?_|refine T.block ?_|refine T.skip ?_|refine T.exit ?_|refine T.zf rfl ?_|refine T.ze rfl ?_|refine T.cond rfl (fun hc=>?_) (fun hc=>?_)|refine T.ret ?_|simp only [za,z8,reduceIte,Nat.reduceEqDiff]|((repeat ((fail_if_success (refine hK _ ?_));clear hK K));refine hK _ ?_;clear hK K))
 (refine T.reg (by kernel_rfl) fun K' hK'=>?_;simp only [bz];(repeat' (first|(with_reducible refine WL.fin ?_;refine hK' _ ?_;clear hK' K')|((with_reducible refine WL.step fun K2 hK2=>?_);simp only [simprocAttr,implies_true,amz,tys];(repeat' with_reducible (first|(refine hK2 _ ?_;clear hK2 K2)|refine And.intro ?_ ?_|intro hb)))));all_goals ((try simp only [za,z8,reduceIte,Nat.reduceEqDiff]);(try ((repeat ((fail_if_success (refine hK _ ?_));clear hK K));refine hK _ ?_;clear hK K))))
 repeat' (first|refine T.zh fun K hK=>?_|refine T.block ?_|refine T.skip ?_|refine T.exit ?_|refine T.zf rfl ?_|refine T.ze rfl ?_|refine T.cond rfl (fun hc=>?_) (fun hc=>?_)|refine T.ret ?_|simp only [za,z8,reduceIte,Nat.reduceEqDiff]|((repeat ((fail_if_success (refine hK _ ?_));clear hK K));refine hK _ ?_;clear hK K))
 (refine T.reg (by kernel_rfl) fun K' hK'=>?_;simp only [bz];(repeat' (first|(with_reducible refine WL.fin ?_;refine hK' _ ?_;clear hK' K')|((with_reducible refine WL.step fun K2 hK2=>?_);simp only [simprocAttr,implies_true,amz,tys];(repeat' with_reducible (first|(refine hK2 _ ?_;clear hK2 K2)|refine And.intro ?_ ?_|intro hb)))));all_goals ((try simp only [za,z8,reduceIte,Nat.reduceEqDiff]);(try ((repeat ((fail_if_success (refine hK _ ?_));clear hK K));refine hK _ ?_;clear hK K))))
 refine T.weak (zk.ren _ 4 1) ?_;simp only [ASt.ren,AV.qK,AV.z0p,AV.z06,AV.z0C,AV.z1I,AV.z0F,AV.z0a,AV.z08,AV.z1p,AV.z0E,AV.z0G,AO.z0O,AO.z0c,AO.z10,AO.z0W,List.map_cons,List.map_nil,List.filter_cons,List.filter_nil,zx,qf,reduceIte,Nat.reduceEqDiff,Nat.reduceLT,Nat.reduceBneDiff,bne_self_eq_false,Bool.and_true,Bool.and_false,Bool.true_and,Bool.false_and,Bool.and_self,Bool.false_eq_true,ne_eq,not_false_eq_true,not_true_eq_false,and_self,and_true,true_and,and_false,]
 refine T.weak (zk.ren _ 5 2) ?_;simp only [ASt.ren,AV.qK,AV.z0p,AV.z06,AV.z0C,AV.z1I,AV.z0F,AV.z0a,AV.z08,AV.z1p,AV.z0E,AV.z0G,AO.z0O,AO.z0c,AO.z10,AO.z0W,List.map_cons,List.map_nil,List.filter_cons,List.filter_nil,zx,qf,reduceIte,Nat.reduceEqDiff,Nat.reduceLT,Nat.reduceBneDiff,bne_self_eq_false,Bool.and_true,Bool.and_false,Bool.true_and,Bool.false_and,Bool.and_self,Bool.false_eq_true,ne_eq,not_false_eq_true,not_true_eq_false,and_self,and_true,true_and,and_false,]
 refine T.weak (zk.ren _ 6 3) ?_;simp only [ASt.ren,AV.qK,AV.z0p,AV.z06,AV.z0C,AV.z1I,AV.z0F,AV.z0a,AV.z08,AV.z1p,AV.z0E,AV.z0G,AO.z0O,AO.z0c,AO.z10,AO.z0W,List.map_cons,List.map_nil,List.filter_cons,List.filter_nil,zx,qf,reduceIte,Nat.reduceEqDiff,Nat.reduceLT,Nat.reduceBneDiff,bne_self_eq_false,Bool.and_true,Bool.and_false,Bool.true_and,Bool.false_and,Bool.and_self,Bool.false_eq_true,ne_eq,not_false_eq_true,not_true_eq_false,and_self,and_true,true_and,and_false,]
 refine T.weak (zk.ren _ 7 0) ?_;simp only [ASt.ren,AV.qK,AV.z0p,AV.z06,AV.z0C,AV.z1I,AV.z0F,AV.z0a,AV.z08,AV.z1p,AV.z0E,AV.z0G,AO.z0O,AO.z0c,AO.z10,AO.z0W,List.map_cons,List.map_nil,List.filter_cons,List.filter_nil,zx,qf,reduceIte,Nat.reduceEqDiff,Nat.reduceLT,Nat.reduceBneDiff,bne_self_eq_false,Bool.and_true,Bool.and_false,Bool.true_and,Bool.false_and,Bool.and_self,Bool.false_eq_true,ne_eq,not_false_eq_true,not_true_eq_false,and_self,and_true,true_and,and_false,]
 refine T.pin 0 _ rfl fun b=>?_;simp only [zG,AO.pin,List.map_cons,List.map_nil,reduceIte,Nat.reduceEqDiff]
 refine T.weak (zk.boxle _ 0 (some b) 133 _ [.int 0,.int 1,.own 1,.own 2,.own 3,.p (.seq 1 []),.int 0,.int 0,.int 0,.int 0,.int 0] rfl rfl fun j x hx=>?_) ?_
 ·rcases j with _|_|_|_|_|_|_|_|_|_|_|j <;> cases hx <;> first|exact ⟨_,rfl,AVle.refl _⟩|exact ⟨_,rfl,AVle.nil _⟩
 simp only [zG,List.map_cons,List.map_nil,reduceIte,Nat.reduceEqDiff]
 refine T.ret ?_
 refine FinM.ret (s':=⟨[(0,.ptr 0 0)],hpS b ps0 0 0 0,6,4⟩) (r := .ptr 0 0) (.inr rfl) Try.results75 (by refine zk.of' rfl ?_;simp only [wks,reduceIte,Nat.reduceEqDiff,ASt.okB,AV.okB,Nat.reduceLT,implies_true,hpS,gpC,ps0,gp0,List.map_nil,AO.pin,z7i,z9D,dnO_none]) rfl ?_ ?_;(focus (simp only [zu,zo,zn,simprocAttr,implies_true,amz,tys,];done))
 exact ⟨b,rfl,rfl⟩
end Go.Proofs.Ytdlgoofjechocaa
namespace Go.Proofs.Ytdlgoofjechocaa
open Go.RowKit Go.Sort
theorem AO.z2G (t t' : Nat) (e:Nat) (cs:List AV):AO.ren t t' (.arow e cs) = .arow e (cs.map (AV.ren t t')):=rfl
abbrev nilV:Value := .slice none 0 0
end Go.Proofs.Ytdlgoofjechocaa
namespace Go.Proofs.Ytdlgoofjechocaa
open Go.RowKit Go.Sort Go.Maps
theorem qR {α:Type} {f : α → α} {l:List α} (h : ∀ x ∈ l,f x=x):l.map f=l:=by
 rw [List.map_congr_left (g:=id) h,List.map_id]
theorem AV.z3Y {t n:Nat} (y:AV) (h:n≤t) : ∀ x:AV,x.okB n=true→AV.sub t y x=x
 | .own k,hx=>by simp only [AV.okB,decide_eq_true_eq] at hx;simp only [AV.sub];rw [if_neg (by omega)]
 | .pre k m,hx=>by simp only [AV.okB,decide_eq_true_eq] at hx;simp only [AV.sub];rw [if_neg (by omega)]
 | .suf k j m,hx=>by simp only [AV.okB,decide_eq_true_eq] at hx;simp only [AV.sub];rw [if_neg (by omega)]
 | .ptr k m,hx=>by simp only [AV.okB,decide_eq_true_eq] at hx;simp only [AV.sub];rw [if_neg (by omega)]
 | .rptr k m i j,hx=>by simp only [AV.okB,decide_eq_true_eq] at hx;simp only [AV.sub];rw [if_neg (by omega)]
 | .fn f cs,hx=>by
  rw [AV.qo,List.all_eq_true] at hx
  rw [AV.z5r,qR fun c hc=>AV.z3Y y h c (hx c hc)]
 | .agg cs,hx=>by
  rw [AV.qa,List.all_eq_true] at hx
  rw [AV.z3n,qR fun c hc=>AV.z3Y y h c (hx c hc)]
 | .tup cs,hx=>by
  rw [AV.qy,List.all_eq_true] at hx
  rw [AV.z2J,qR fun c hc=>AV.z3Y y h c (hx c hc)]
 | .p x,_=>by simp only [AV.sub]
 | .elt r k,_=>by simp only [AV.sub]
 | .cap0,_=>by simp only [AV.sub]
 | .zB,_=>by simp only [AV.sub]
termination_by x=>SizeOf.sizeOf x
decreasing_by all_goals (have:=List.sizeOf_lt_of_mem hc;simp;omega)
theorem AV.z4O {t t' n:Nat} (h:n≤t) (h' : n≤t') : ∀ x:AV,x.okB n=true→AV.ren t t' x=x
 | .own k,hx=>by simp only [AV.okB,decide_eq_true_eq] at hx;rw [AV.qK,if_neg (by omega),if_neg (by omega)]
 | .suf k j m,hx=>by simp only [AV.okB,decide_eq_true_eq] at hx;rw [AV.ren_suf,if_neg (by omega),if_neg (by omega)]
 | .pre k m,hx=>by simp only [AV.okB,decide_eq_true_eq] at hx;rw [AV.z0C,if_neg (by omega),if_neg (by omega)]
 | .ptr k m,hx=>by simp only [AV.okB,decide_eq_true_eq] at hx;rw [AV.z0p,if_neg (by omega),if_neg (by omega)]
 | .rptr k m i j,hx=>by simp only [AV.okB,decide_eq_true_eq] at hx;rw [AV.z06,if_neg (by omega),if_neg (by omega)]
 | .fn f cs,hx=>by
  rw [AV.qo,List.all_eq_true] at hx
  rw [AV.z1p,qR fun c hc=>AV.z4O h h' c (hx c hc)]
 | .agg cs,hx=>by
  rw [AV.qa,List.all_eq_true] at hx
  rw [AV.z0E,qR fun c hc=>AV.z4O h h' c (hx c hc)]
 | .tup cs,hx=>by
  rw [AV.qy,List.all_eq_true] at hx
  rw [AV.z0G,qR fun c hc=>AV.z4O h h' c (hx c hc)]
 | .p x,_=>by rw [AV.z1I]
 | .elt r k,_=>by rw [AV.z0F]
 | .cap0,_=>by rw [AV.z08]
 | .zB,_=>by rw [AV.z0a]
termination_by x=>SizeOf.sizeOf x
decreasing_by all_goals (have:=List.sizeOf_lt_of_mem hc;simp;omega)
theorem AO.z3Y {t n:Nat} (y:AV) (h:n≤t) {o:AO} (ho:o.okB n=true):o.sub t y=o:=by
 cases o with
 | boxP pin ty cs=>rw [AO.qg,List.all_eq_true] at ho;rw [AO.z3a,qR fun c hc=>AV.z3Y y h c (ho c hc)]
 | row e m rows=>rfl
 | map pin P k m f=>rfl
 | raw u ob=>rfl
 | lrec l sp fr =>
  rw [AO.z4p,List.all_eq_true] at ho
  rw [AO.z2K,qR fun c hc=>by rw [AV.z3Y y h c.2 (ho c hc)]]
 | amap P k m f q =>
  simp only [AO.okB,decide_eq_true_eq] at ho
  rw [AO.z9w]
  congr 1
  funext l
  cases hf:f l with
  | none=>rfl
  | some x=>rw [Option.map_some,AV.z3Y y h x (ho l x hf)]
 | arow e cs=>rw [AO.z5y,List.all_eq_true] at ho;rw [AO.z1T,qR fun c hc=>AV.z3Y y h c (ho c hc)]
theorem AO.z4O {t t' n:Nat} (h:n≤t) (h' : n≤t') {o:AO} (ho:o.okB n=true):o.ren t t' = o:=by
 cases o with
 | boxP pin ty cs=>rw [AO.qg,List.all_eq_true] at ho;simp only [AO.ren];rw [qR fun c hc=>AV.z4O h h' c (ho c hc)]
 | row e m rows=>rfl
 | map pin P k m f=>rfl
 | raw u ob=>rfl
 | lrec l sp fr =>
  rw [AO.z4p,List.all_eq_true] at ho
  simp only [AO.ren]
  rw [qR fun c hc=>by rw [AV.z4O h h' c.2 (ho c hc)]]
 | amap P k m f q =>
  simp only [AO.okB,decide_eq_true_eq] at ho
  simp only [AO.ren]
  congr 1
  funext l
  cases hf:f l with
  | none=>rfl
  | some x=>rw [Option.map_some,AV.z4O h h' x (ho l x hf)]
 | arow e cs=>rw [AO.z5y,List.all_eq_true] at ho;simp only [AO.ren];rw [qR fun c hc=>AV.z4O h h' c (ho c hc)]
structure HpOk (n:Nat) (hp:Hp):Prop where
 ok : ∀ p ∈ hp,p.1<n∧p.2.okB n=true
 one : ∀ p ∈ hp,hp.lookup p.1=some p.2
namespace HpOk
variable {n:Nat} {hp:Hp} (h:HpOk n hp)
include h
theorem none {t:Nat} (ht:n≤t):hp.lookup t=Option.none:=by
 cases hl:hp.lookup t with
 | none=>rfl
 | some o=>have:=(h.ok _ (qE hl)).1;simp only at this;omega
theorem at' {t:Nat} {o:AO} (hl:hp.lookup t=some o):t<n∧o.okB n=true:=h.ok _ (qE hl)
theorem sub {t:Nat} (y:AV) (ht:n≤t):List.map (fun p=>(p.1,AO.sub t y p.2)) hp=hp:=qR fun p hp=>by rw [AO.z3Y y ht (h.ok p hp).2]
theorem ren {t t' : Nat} (ht:n≤t) (ht' : n≤t'):List.map (fun p=>(p.1,AO.ren t t' p.2)) hp=hp:=qR fun p hp=>by rw [AO.z4O ht ht' (h.ok p hp).2]
theorem set {t:Nat} (o:AO) (ht:n≤t):List.map (fun p=>if p.1=t then (t,o) else p) hp=hp:=qR fun p hp=>by rw [if_neg];have:=(h.ok p hp).1;omega
theorem ne2 {t t' : Nat} (ht:n≤t) (ht' : n≤t'):List.filter (fun p=>p.1 != t&&p.1 != t') hp=hp:=List.filter_eq_self.2 fun p hp=>by have:=(h.ok p hp).1;simp;omega
theorem le:List.filter (fun p=>decide (n≤p.1)) hp = []:=List.filter_eq_nil_iff.2 fun p hp=>by have:=(h.ok p hp).1;simp;omega
theorem all:hp.all (fun p=>decide (p.1<n)&&p.2.okB n)=true:=List.all_eq_true.2 fun p hp=>by have:=h.ok p hp;simp [this.1,this.2]
end HpOk
theorem qP (a b:Hp) (t:Nat):List.lookup t (a++b)=(a.lookup t).or (b.lookup t):=z3K a b t
theorem z6B.of {P:Program} {fr:List (Nat × AV)} {hp:Hp} {n N y:Nat} {xs:List AV} {d:Option Nat} {K:ASt→Prop} (m:Nat) (A H H' : Hp) (l:Nat) (sp:LSpec) (fr0:List (Nat × AV)) (hs:hp=A++H) (hA : ∀ p ∈ A,m≤p.1) (hAk:A.map (fun p=>(p.1,p.2.keep m [y]))=A) (hH:HpOk m H) (hyc:YldC P l m H xs fun hp' r=>hp' = H' ∧ r = .bool true)
  (hlk:H.lookup y=some (.lrec l sp fr0)) (hk:Kept H H' y) (hN:m≤N) (hxs:(xs.all (·.okB m))=true) (hK:K (ASt.put ⟨fr.map fun p=>(p.1,p.2.keep m [y]),H' ++ A,n,N⟩ d (.bool true))):z6B P ⟨fr,hp,n,N⟩ y xs d K:=by
 have hAn : ∀ {t:Nat},t<m→A.lookup t=none:=fun {t} ht=>by
  cases hl:A.lookup t with
  | none=>rfl
  | some o=>have:=hA _ (qE hl);simp only at this;omega
 refine ⟨m,H,_,[y],l,sp,fr0,hyc,?_,⟨hN,fun p hp=>?_,fun p hp hlt=>?_⟩,hxs,?_⟩
 ·show List.lookup y hp=_
  rw [hs,qP,hAn (hH.at' hlk).1,hlk];rfl
 ·obtain ⟨h1,h2⟩:=hH.ok p hp
  refine ⟨?_,h1,h2⟩
  show List.lookup p.1 _=_
  rw [hs,qP,hAn h1,hH.one p hp];rfl
 ·have hp' : p ∈ A++H:=hs ▸ hp
  rcases List.mem_append.1 hp' with h1|h1
  ·have:=hA p h1;omega
  ·rw [hH.one p h1];rfl
 ·rintro hp' r ⟨rfl,rfl⟩
  refine ⟨fun t ht _=>?_,?_⟩
  ·rw [List.mem_singleton.1 ht];exact hk
  ·have e:ASt.qU ⟨fr,hp,n,N⟩ m [y] hp' = ⟨fr.map fun p=>(p.1,p.2.keep m [y]),hp' ++ A,n,N⟩:=by
    unfold ASt.qU
    simp only [hs,List.filter_append,hH.le,List.append_nil]
    rw [List.filter_eq_self.2 fun p hp=>by simpa using hA p hp,hAk]
   rw [e]
   exact hK
theorem zk.subs (s:ASt) (fr' : List (Nat × AV)) (hp' : Hp) (m:Nat) (he : ∀ t o,hp'.lookup t=some o→s.hp.lookup t=some o) (hfr : ∀ p ∈ fr',AVle (s.get p.1) p.2) (hok:(fr'.all fun p=>p.2.okB m)=true) (hhp : ∀ t o,hp'.lookup t=some o→t<m∧o.okB m=true):zk s ⟨fr',hp',s.n,m⟩:=fun L loc ac w hr=>by
 let loc' : Nat→Option Value:=fun t=>if (hp'.lookup t).isSome then loc t else none
 have hl : ∀ t u,loc' t=some u→loc t=some u:=fun t u h=>by
  simp only [loc'] at h
  split at h
  ·exact h
  ·cases h
 have hD : ∀ k,Dm L loc' k→Dm L loc k:=fun k hk=>hk.imp id fun ⟨t,u,h1,h2⟩=>⟨t,u,hl t u h1,h2⟩
 refine ⟨loc',⟨hr.defers,hr.size,fun t _=>?_,⟨fun t o ht=>?_,fun t ht=>?_,fun t t' u u' b h1 h2=>hr.hp.apart t t' u u' b (hl _ _ h1) (hl _ _ h2),hr.hp.inL,fun t u b h1=>hr.hp.notL t u b (hl _ _ h1)⟩⟩,⟨Kp.refl _ _,fun b hb => .inl (hb.imp id fun ⟨t,u,h1,h2⟩=>⟨t,u,hl t u h1,h2⟩)⟩⟩
 ·unfold ASt.get
  cases ht:fr'.lookup t with
  | none=>exact .zB _
  | some x =>
   have hm:=qE ht
   have h1:=hfr _ hm _ _ _ _ _ (hr.fr t trivial)
   exact (h1.low (List.all_eq_true.1 hok _ hm)).mono (Nat.le_refl _) (Kp.refl _ _) (fun k _ h=>hD k h) (fun t u _ h=>hl t u h)
 ·obtain ⟨_,u,h3,h4⟩:=hr.hp.at' t o (he t o ht)
  obtain ⟨h5,h6⟩:=hhp t o ht
  refine ⟨h5,u,by simp [loc',ht,h3],(h4.low h6).mono (Nat.le_refl _) (Kp.refl _ _) (fun k _ h=>hD k h) (fun t u _ h=>hl t u h) (fun _ _=>rfl)⟩
 ·simp [loc',ht]
theorem z8W (a b:Int):zq Try.prog 53 [.int a,.int b] (.bool (aftB a b)):=by
 cases h7:(a==7) with
 | true =>
  cases h6:(b==6) with
  | true =>
   refine zq.of Try.func53 rfl 30 rfl (by decide) (by simp [AV.okB]) ?_
   repeat' (first|refine T.zh fun K hK=>?_|refine T.block ?_|(refine T.reg (by kernel_rfl) fun K' hK'=>?_;simp only [bz];(repeat' (first|(with_reducible refine WL.fin ?_;refine hK' _ ?_;clear hK' K')|((with_reducible refine WL.step fun K2 hK2=>?_);simp only [simprocAttr,implies_true,amz,tys,h7,h6];(repeat' with_reducible (first|(refine hK2 _ ?_;clear hK2 K2)|refine And.intro ?_ ?_|intro hb))))))|refine T.skip ?_|refine T.exit ?_|refine T.zf rfl ?_|refine T.ze rfl ?_|refine T.cond rfl (fun hc=>?_) (fun hc=>?_)|refine T.ret ?_|simp only [za,z8,reduceIte,Nat.reduceEqDiff]|((repeat ((fail_if_success (refine hK _ ?_));clear hK K));refine hK _ ?_;clear hK K))
   all_goals (refine zy.ret (.inr rfl) Try.results53 ?_;simp only [zu,zo,zn,simprocAttr,implies_true,amz,tys,];simp [aftB,h7,h6])
  | false =>
   refine zq.of Try.func53 rfl 30 rfl (by decide) (by simp [AV.okB]) ?_
   repeat' (first|refine T.zh fun K hK=>?_|refine T.block ?_|(refine T.reg (by kernel_rfl) fun K' hK'=>?_;simp only [bz];(repeat' (first|(with_reducible refine WL.fin ?_;refine hK' _ ?_;clear hK' K')|((with_reducible refine WL.step fun K2 hK2=>?_);simp only [simprocAttr,implies_true,amz,tys,h7,h6];(repeat' with_reducible (first|(refine hK2 _ ?_;clear hK2 K2)|refine And.intro ?_ ?_|intro hb))))))|refine T.skip ?_|refine T.exit ?_|refine T.zf rfl ?_|refine T.ze rfl ?_|refine T.cond rfl (fun hc=>?_) (fun hc=>?_)|refine T.ret ?_|simp only [za,z8,reduceIte,Nat.reduceEqDiff]|((repeat ((fail_if_success (refine hK _ ?_));clear hK K));refine hK _ ?_;clear hK K))
   all_goals (refine zy.ret (.inr rfl) Try.results53 ?_;simp only [zu,zo,zn,simprocAttr,implies_true,amz,tys,];simp [aftB,h7,h6])
 | false =>
  refine zq.of Try.func53 rfl 30 rfl (by decide) (by simp [AV.okB]) ?_
  repeat' (first|refine T.zh fun K hK=>?_|refine T.block ?_|(refine T.reg (by kernel_rfl) fun K' hK'=>?_;simp only [bz];(repeat' (first|(with_reducible refine WL.fin ?_;refine hK' _ ?_;clear hK' K')|((with_reducible refine WL.step fun K2 hK2=>?_);simp only [simprocAttr,implies_true,amz,tys,h7];(repeat' with_reducible (first|(refine hK2 _ ?_;clear hK2 K2)|refine And.intro ?_ ?_|intro hb))))))|refine T.skip ?_|refine T.exit ?_|refine T.zf rfl ?_|refine T.ze rfl ?_|refine T.cond rfl (fun hc=>?_) (fun hc=>?_)|refine T.ret ?_|simp only [za,z8,reduceIte,Nat.reduceEqDiff]|((repeat ((fail_if_success (refine hK _ ?_));clear hK K));refine hK _ ?_;clear hK K))
  all_goals (refine zy.ret (.inr rfl) Try.results53 ?_;simp only [zu,zo,zn,simprocAttr,implies_true,amz,tys,])
  all_goals (simp [aftB,h7, *])
set_option linter.unusedSectionVars false
def nI (i:Nat):Value := .int .i64 (i:Int)
def qw (r:List Nat):List (List PV):=r.map fun (i:Nat) => [PV.val (.int .i64 ((i:Nat):Int))]
noncomputable def atM (B:Nat) (m:Int→Int→Option Nat):Lit→Option AV:=plA fun o f=>(m o f).map fun i=>AV.own (i+B)
structure It where
 j:Nat
 m:Int→Int→Option Nat
 R:List (List Nat)
 a:Nat
 b:Nat
 c:Nat
 d:Nat
noncomputable def hpI (B:Nat) (l:List Ev) (s:It) (tl:Hp):Hp:=(5000000,.map none Try.prog 3 s.a (inM nI fun g=>z03 l (fun d=>d.g==g) s.j)) :: (5000001,.map none Try.prog 3 s.b (inM nI fun g=>z03 l (z0o g) s.j)) :: (5000002,.amap Try.prog 85 s.c (atM B s.m) none) :: (5000003,.map none Try.prog 85 s.d (plM nI fun o f=>z03 l (wrAt o f) s.j)) :: (mat 3 1 B (s.R.map qw)++tl)
structure ItOk (l:List Ev) (s:It):Prop where
 j:s.j≤l.length
 R:s.R.length≤s.j
 row : ∀ o f i,s.m o f=some i→s.R[i]? = some (atL l o f s.j)
 none : ∀ o f,s.m o f=none→atL l o f s.j = []
 inj : ∀ o f o' f' i,s.m o f=some i→s.m o' f' = some i→o=o' ∧ f=f'
 a:s.a≤s.j
 b:s.b≤s.j
 c:s.c≤2*s.j
 d:s.d≤s.j
theorem AV.z0I {n m:Nat} (h:n≤m) : ∀ x:AV,x.okB n=true→x.okB m=true
 | .own k,hx=>by simp only [AV.okB,decide_eq_true_eq] at hx ⊢;omega
 | .pre k _,hx=>by simp only [AV.okB,decide_eq_true_eq] at hx ⊢;omega
 | .suf k _ _,hx=>by simp only [AV.okB,decide_eq_true_eq] at hx ⊢;omega
 | .ptr k _,hx=>by simp only [AV.okB,decide_eq_true_eq] at hx ⊢;omega
 | .rptr k _ _ _,hx=>by simp only [AV.okB,decide_eq_true_eq] at hx ⊢;omega
 | .fn f cs,hx=>by
  rw [AV.qo,List.all_eq_true] at hx ⊢
  exact fun c hc=>AV.z0I h c (hx c hc)
 | .agg cs,hx=>by
  rw [AV.qa,List.all_eq_true] at hx ⊢
  exact fun c hc=>AV.z0I h c (hx c hc)
 | .tup cs,hx=>by
  rw [AV.qy,List.all_eq_true] at hx ⊢
  exact fun c hc=>AV.z0I h c (hx c hc)
 | .p x,_=>by simp only [AV.okB]
 | .elt r k,_=>by simp only [AV.okB]
 | .cap0,_=>by simp only [AV.okB]
 | .zB,_=>by simp only [AV.okB]
termination_by x=>SizeOf.sizeOf x
decreasing_by all_goals (have:=List.sizeOf_lt_of_mem hc;simp;omega)
theorem AO.z0I {n m:Nat} {o:AO} (ho:o.okB n=true) (h:n≤m):o.okB m=true:=by
 cases o with
 | boxP pin ty cs=>rw [AO.qg,List.all_eq_true] at ho ⊢;exact fun c hc=>AV.z0I h c (ho c hc)
 | row e m rows=>rfl
 | map pin P k m f=>rfl
 | raw u ob=>rfl
 | lrec l sp fr=>rw [AO.z4p,List.all_eq_true] at ho ⊢;exact fun c hc=>AV.z0I h c.2 (ho c hc)
 | amap P k m f q =>
  simp only [AO.okB,decide_eq_true_eq] at ho ⊢
  exact fun l x hx=>AV.z0I h x (ho l x hx)
 | arow e cs=>rw [AO.z5y,List.all_eq_true] at ho ⊢;exact fun c hc=>AV.z0I h c (ho c hc)
section
variable {B:Nat} (hB:B=2000010) {R:List (List (List PV))} (hR:R.length≤1000000) {tl:Hp} (ht:HpOk 2000000 tl)
include ht
theorem tl_row {i:Nat} {r:List (List PV)} (h:R[i]? = some r):List.lookup (i+B) (mat 3 1 B R++tl)=some (.row 3 1 r):=by
 rw [qP,z2o,h];rfl
include hB hR in
theorem z0y {t:Nat} (o:AO) (h : 5000000≤t):List.map (fun p=>if p.1=t then (t,o) else p) (mat 3 1 B R++tl)=mat 3 1 B R++tl:=by
 rw [List.map_append,ht.set o (by omega)]
 congr 1
 exact qR fun p hp=>by rw [if_neg];have:=(z1k _ _ _ _ p hp).2.1;omega
include hB in
theorem tl_setI (i:Nat) (r:List (List PV)):List.map (fun p=>if p.1=i+B then (i+B,.row 3 1 r) else p) (mat 3 1 B R++tl)=mat 3 1 B (R.set i r)++tl:=by
 rw [List.map_append,ht.set _ (by omega),z2M]
theorem tl_sub {t:Nat} (y:AV) (h : 2000000≤t):List.map (fun p=>(p.1,AO.sub t y p.2)) (mat 3 1 B R++tl)=mat 3 1 B R++tl:=by
 rw [List.map_append,ht.sub y h,z4e]
theorem tl_ren {t t' : Nat} (h : 2000000≤t) (h' : 2000000≤t'):List.map (fun p=>(p.1,AO.ren t t' p.2)) (mat 3 1 B R++tl)=mat 3 1 B R++tl:=by
 rw [List.map_append,ht.ren h h',z7r]
include hB hR
theorem zR {t:Nat} (h : 5000000≤t):List.lookup t (mat 3 1 B R++tl)=none:=by
 rw [qP,z7d _ _ _ _ _ (by omega),ht.none (by omega)];rfl
theorem tl_ne2 {t:Nat} (h : 5000000≤t):List.filter (fun p=>p.1 != t&&p.1 != R.length+B) (mat 3 1 B R++tl)=mat 3 1 B R++tl:=by
 rw [List.filter_append,ht.ne2 (by omega) (by omega),z7N _ _ _ _ _ _ (.inr (by omega)) (.inr (by omega))]
theorem tl_ok {t:Nat} {o:AO} (h:List.lookup t (mat 3 1 B R++tl)=some o):t<5000000∧o.okB 5000000=true:=by
 rw [qP] at h
 cases hm:(mat 3 1 B R).lookup t with
 | some o' =>
  rw [hm] at h
  cases h
  obtain ⟨h1,h2,r,_,h3⟩:=z1k _ _ _ _ _ (qE hm)
  simp only at h1 h2 h3
  rw [h3]
  exact ⟨by omega,rfl⟩
 | none =>
  rw [hm] at h
  obtain ⟨h1,h2⟩:=ht.at' h
  exact ⟨by omega,AO.z0I h2 (by omega)⟩
end
theorem atM_ok {B:Nat} (hB:B=2000010) {l:List Ev} (hl:l.length≤1000000) {s:It} (hs:ItOk l s) (kl:Lit) (x:AV) (h:atM B s.m kl=some x):x.okB 5000004=true:=by
 unfold atM plA at h
 obtain ⟨q,h1,h2⟩:=Option.bind_eq_some_iff.1 h
 obtain ⟨i,h3,rfl⟩:=Option.map_eq_some_iff.1 h2
 have h4:=(List.getElem?_eq_some_iff.1 (hs.row _ _ _ h3)).1
 have h5:=hs.R
 have h6:=hs.j
 simp only [AV.okB,decide_eq_true_eq]
 omega
theorem z1d {B:Nat} (hB:B=2000010) {l:List Ev} (hl:l.length≤1000000) {s:It} (hs:ItOk l s) {tl:Hp} (ht:HpOk 2000000 tl) (t:Nat) (o:AO) (h:(hpI B l s tl).lookup t=some o):t<5000004∧o.okB 5000004=true:=by
 have hR:(s.R.map qw).length≤1000000:=by have:=hs.R;have:=hs.j;simp;omega
 unfold hpI at h
 simp only [zx] at h
 split at h
 ·cases h;exact ⟨by omega,rfl⟩
 split at h
 ·cases h;exact ⟨by omega,rfl⟩
 split at h
 ·cases h;exact ⟨by omega,AO.okB_amap _ _ _ _ _ _ (atM_ok hB hl hs)⟩
 split at h
 ·cases h;exact ⟨by omega,rfl⟩
 obtain ⟨h1,h2⟩:=tl_ok hB hR ht h
 exact ⟨by omega,AO.z0I h2 (by omega)⟩
noncomputable def ownI (B:Nat) (l:List Ev) (e:Ev) (s:It):Hp:=(5000005,.boxP none 85 [.p (.val (.int .i64 e.obj)),.p (.val (.int .i64 e.off))]) :: (5000004,.boxP none 39 [.p (.val (.int .i64 e.g)),.p (.val (.int .i64 e.kind)),.p (.val (.int .i64 e.obj)),.p (.val (.int .i64 e.off)),.p (.val (.int .i64 e.k)),.p (.val (.int .i64 e.n)),.p (.val (.int .i64 e.fn)),.p (.val (.int .i64 e.pc)),.p (.val (.int .i64 e.st))]) ::
 (5000000,.map none Try.prog 3 s.a (inM nI fun g=>z03 l (fun d=>d.g==g) s.j)) :: (5000001,.map none Try.prog 3 s.b (inM nI fun g=>z03 l (z0o g) s.j)) :: (5000002,.amap Try.prog 85 s.c (atM B s.m) none) :: (5000003,.map none Try.prog 85 s.d (plM nI fun o f=>z03 l (wrAt o f) s.j)) :: mat 3 1 B (s.R.map qw)
def frI (l:List Ev) (y j:Nat):List (Nat × AV) := [(0,.own y),(1,.elt [.seq 9 (l.map evC)] 0),(3,.own 5000000),(4,.own 5000001),(5,.own 5000002),(6,.own 5000003),(7,.int j),(8,.ptr 5000004 0),(9,.ptr 5000005 0),(25,.p (.seq 9 (l.map evC))),(26,.int l.length),(27,.int j)]
theorem z19 {B:Nat} (hB:B=2000010) (l:List Ev) (e:Ev) (s:It) : ∀ p ∈ ownI B l e s,2000000≤p.1:=by
 intro p hp
 simp only [ownI,List.mem_cons] at hp
 rcases hp with rfl|rfl|rfl|rfl|rfl|rfl|hp
 all_goals first|(simp only [];omega)|(have:=(z1k _ _ _ _ p hp).1;omega)
theorem z7c {t:Nat} {o:AO} {A:Hp} (h : 2000000≤t) (hA : ∀ p ∈ A,2000000≤p.1) : ∀ p ∈ ((t,o) :: A:Hp),2000000≤p.1:=fun p hp=>by
 rcases List.mem_cons.1 hp with rfl|h1
 ·exact h
 ·exact hA p h1
theorem z1J {B:Nat} (hB:B=2000010) (l:List Ev) (e:Ev) (s:It) (y:Nat):(ownI B l e s).map (fun p=>(p.1,p.2.keep 2000000 [y]))=ownI B l e s:=by
 have hm:(AO.amap Try.prog 85 s.c (atM B s.m) none).keep 2000000 [y] = .amap Try.prog 85 s.c (atM B s.m) none:=by
  simp only [AO.keep]
  congr 1
  unfold atM
  rw [plA_map]
  congr 1
  funext o f
  rw [Option.map_map]
  congr 1
  funext i
  simp only [Function.comp,AV.zU]
  rw [if_pos (.inl (by omega))]
 unfold ownI
 simp only [List.map_cons,hm,mat_keep,AO.z1S,AO.keep_map,AV.ql,List.map_nil]
theorem z0i {B:Nat} (hB:B=2000010) {l:List Ev} (hl:l.length≤1000000) {e:Ev} {s:It} (hs:ItOk l s) {tl:Hp} (ht:HpOk 2000000 tl) (t:Nat) (o:AO) (h:List.lookup t (ownI B l e s++tl)=some o):t<5000006∧o.okB 5000006=true:=by
 have h' : List.lookup t ((5000005,AO.boxP none 85 [.p (.val (.int .i64 e.obj)),.p (.val (.int .i64 e.off))]) :: (5000004,.boxP none 39 [.p (.val (.int .i64 e.g)),.p (.val (.int .i64 e.kind)),.p (.val (.int .i64 e.obj)),.p (.val (.int .i64 e.off)),.p (.val (.int .i64 e.k)),.p (.val (.int .i64 e.n)),.p (.val (.int .i64 e.fn)),.p (.val (.int .i64 e.pc)),.p (.val (.int .i64 e.st))]) :: hpI B l s tl)=some o:=h
 rw [zx] at h'
 split at h'
 ·cases h';exact ⟨by omega,by simp [AO.qg,AV.okB]⟩
 rw [zx] at h'
 split at h'
 ·cases h';exact ⟨by omega,by simp [AO.qg,AV.okB]⟩
 obtain ⟨h1,h2⟩:=z1d hB hl hs ht t o h'
 exact ⟨by omega,AO.z0I h2 (by omega)⟩
theorem z4Y {B:Nat} (hB:B=2000010) {l:List Ev} (hl:l.length≤1000000) {e f:Ev} {s:It} (hs:ItOk l s) {tl:Hp} (ht:HpOk 2000000 tl) (t:Nat) (o:AO) (h:List.lookup t ((5000006,AO.boxP none 39 [.p (.val (.int .i64 f.g)),.p (.val (.int .i64 f.kind)),.p (.val (.int .i64 f.obj)),.p (.val (.int .i64 f.off)),.p (.val (.int .i64 f.k)),.p (.val (.int .i64 f.n)),.p (.val (.int .i64 f.fn)),.p (.val (.int .i64 f.pc)),.p (.val (.int .i64 f.st))]) :: (ownI B l e s++tl))=some o):t<5000007∧o.okB 5000007=true:=by
 rw [zx] at h
 split at h
 ·cases h;exact ⟨by omega,by simp [AO.qg,AV.okB]⟩
 obtain ⟨h1,h2⟩:=z0i hB hl hs ht t o h
 exact ⟨by omega,AO.z0I h2 (by omega)⟩
theorem qJ (r:List Nat):(qw r).length=r.length:=by simp [qw]
theorem z3v {r:List Nat} {q i:Nat} (h:r[q]? = some i):(qw r)[q]? = some [PV.val (.int .i64 (i:Int))]:=by
 unfold qw;rw [List.getElem?_map,h];rfl
theorem z7u {R:List (List Nat)} {i:Nat} {r:List Nat} (h:R[i]? = some r):(R.map qw)[i]? = some (qw r):=by
 rw [List.getElem?_map,h];rfl
theorem z6J (l:List Ev) (e:Ev) (j:Nat) {r:List Nat} {q i:Nat} {f:Ev} (h:r[q]? = some i) (hf:l[i]? = some f):z1c l e j (r.take (q+1))=z1c l e j (r.take q)++if z2U f e then [⟨i,j,e.kind⟩] else []:=by
 rw [List.take_add_one,h]
 unfold z1c
 rw [List.filter_append,List.map_append]
 congr 1
 simp only [Option.toList_some,List.filter_cons,List.filter_nil,hf,Option.any_some]
 split <;> rfl
theorem z8R (l:List Ev) (e:Ev) (j:Nat) (r:List Nat) (q:Nat):z1c l e j r=z1c l e j (r.take q)++z1c l e j (r.drop q):=by
 unfold z1c
 rw [← List.map_append,← List.filter_append,List.take_append_drop]
theorem z4d {A H:Hp} (hA : ∀ p ∈ A,2000000≤p.1) (hH:HpOk 2000000 H) (t:Nat):List.lookup t (A++H)=List.lookup t (H++A):=by
 rw [qP,qP]
 by_cases h:t<2000000
 ·have:A.lookup t=none:=by
   cases hl:A.lookup t with
   | none=>rfl
   | some o=>have:=hA _ (qE hl);simp only at this;omega
  rw [this];simp
 ·rw [hH.none (by omega)];simp
theorem z9o {H:List Ed→Hp} {y:Nat} {hv:Value} (hh : ∀ acc,∃ o,(H acc).lookup y=some o∧o.handle=some hv) (a b:List Ed):Kept (H a) (H b) y:=by
 obtain ⟨o,h1,h2⟩:=hh a
 obtain ⟨o',h3,h4⟩:=hh b
 unfold Kept
 rw [h1,h3]
 exact ⟨by rw [h2];rfl,by rw [h2,h4]⟩
theorem z8k {l:List Ev} : ∀ (n j:Nat),j≤n → ∃ r,z0v l n=z0v l j++r
 | 0,j,h=>⟨[],by rw [show j=0 by omega];rfl⟩
 | n+1,j,h=>by
  by_cases e:j=n+1
  ·exact ⟨[],by rw [e,List.append_nil]⟩
  ·obtain ⟨r,hr⟩:=z8k n j (by omega)
   exact ⟨r++_,by rw [z0v,hr,List.append_assoc]⟩
theorem z2d {l:List Ev} {j:Nat} {e:Ev} (hx:l[j]? = some e):updF (inM nI fun g=>z03 l (fun d=>d.g==g) j) (.int .i64 e.g) (some (.int .i64 (j:Int)))=inM nI fun g=>z03 l (fun d=>d.g==g) (j+1):=by
 rw [show Value.int .i64 (j:Int)=nI j from rfl,z8M]
 congr 1
 funext g
 rw [z2z hx]
 by_cases h:g=e.g
 ·subst h;simp
 ·rw [if_neg h,if_neg (by simpa using fun h'=>h h'.symm)]
theorem zae {l:List Ev} {j:Nat} {e:Ev} (hx:l[j]? = some e) (hk:(e.kind==14)=true):updF (inM nI fun g=>z03 l (z0o g) j) (.int .i64 e.k) (some (.int .i64 (j:Int)))=inM nI fun g=>z03 l (z0o g) (j+1):=by
 rw [show Value.int .i64 (j:Int)=nI j from rfl,z8M]
 congr 1
 funext g
 rw [z2z hx,z0o,hk,Bool.true_and]
 by_cases h:g=e.k
 ·subst h;simp
 ·rw [if_neg h,if_neg (by simpa using fun h'=>h h'.symm)]
theorem z0Y {l:List Ev} {j:Nat} {e:Ev} (hx:l[j]? = some e) (hk:(e.kind==14)=false):(fun g=>z03 l (z0o g) (j+1))=fun g=>z03 l (z0o g) j:=by
 funext g
 rw [z2z hx,z0o,hk];rfl
theorem wr_upd {l:List Ev} {j:Nat} {e:Ev} (hx:l[j]? = some e) (hk:wrAt e.obj e.off e=true) (iO:inI e.obj) (iF:inI e.off):updF (plM nI fun o f=>z03 l (wrAt o f) j) (kyl e.obj e.off) (some (.int .i64 (j:Int)))=plM nI fun o f=>z03 l (wrAt o f) (j+1):=by
 rw [show Value.int .i64 (j:Int)=nI j from rfl,z8X _ _ iO iF]
 congr 1
 funext o f
 rw [z2z hx]
 by_cases h:o=e.obj∧f=e.off
 ·obtain ⟨rfl,rfl⟩:=h
  rw [if_pos ⟨rfl,rfl⟩,if_pos hk]
 ·rw [if_neg h,if_neg]
  intro hw
  simp only [wrAt,Bool.and_eq_true,beq_iff_eq] at hw
  exact h ⟨hw.1.2.symm,hw.2.symm⟩
theorem z4X {l:List Ev} {j:Nat} {e:Ev} (hx:l[j]? = some e) (h4:(e.kind==4)=false) (h5:(e.kind==5)=false):(fun o f=>z03 l (wrAt o f) (j+1))=fun o f=>z03 l (wrAt o f) j:=by
 funext o f
 rw [z2z hx,wrAt,h4,h5];rfl
theorem z5h {l:List Ev} {s:It} (hs:ItOk l s) {e:Ev} (hx:l[s.j]? = some e) (hp:pubK e.kind=false) (a b c d:Nat) (ha:a≤s.j+1) (hb:b≤s.j+1) (hc:c≤2*(s.j+1)) (hd:d≤s.j+1):ItOk l ⟨s.j+1,s.m,s.R,a,b,c,d⟩:=by
 have hat : ∀ o f,atL l o f (s.j+1)=atL l o f s.j:=fun o f=>by rw [z2R hx,z4r,hp];simp
 have h1:=(List.getElem?_eq_some_iff.1 hx).1
 exact ⟨h1,by have:=hs.R;simp only;omega,fun o f i h=>by rw [hat];exact hs.row o f i h,fun o f h=>by rw [hat];exact hs.none o f h,hs.inj,ha,hb,hc,hd⟩
theorem z2q {e:Ev} (hp:pubK e.kind=true) (o f:Int):z4r o f e=true↔o=e.obj∧f=e.off:=by
 simp only [z4r,hp,Bool.true_and,Bool.and_eq_true,beq_iff_eq]
 constructor
 ·rintro ⟨h1,h2⟩;exact ⟨h1.symm,h2.symm⟩
 ·rintro ⟨h1,h2⟩;exact ⟨h1.symm,h2.symm⟩
theorem it_old {l:List Ev} {s:It} (hs:ItOk l s) {e:Ev} (hx:l[s.j]? = some e) (hp:pubK e.kind=true) {i:Nat} (hM:s.m e.obj e.off=some i) (a b c d:Nat) (ha:a≤s.j+1) (hb:b≤s.j+1) (hc:c≤2*(s.j+1)) (hd:d≤s.j+1):ItOk l ⟨s.j+1,s.m,s.R.set i (atL l e.obj e.off s.j ++ [s.j]),a,b,c,d⟩:=by
 have h1:=(List.getElem?_eq_some_iff.1 hx).1
 have hil:=(List.getElem?_eq_some_iff.1 (hs.row _ _ _ hM)).1
 refine ⟨h1,by have:=hs.R;simp only [List.length_set];omega,fun o f i' h=>?_,fun o f h=>?_,hs.inj,ha,hb,hc,hd⟩
 ·simp only [List.getElem?_set]
  by_cases hof:o=e.obj∧f=e.off
  ·obtain ⟨rfl,rfl⟩:=hof
   rw [hM] at h
   cases h
   rw [if_pos rfl,if_pos hil,z2R hx,if_pos ((z2q hp _ _).2 ⟨rfl,rfl⟩)]
  ·have hne : ¬ i=i':=fun h'=>by subst h';exact hof (hs.inj _ _ _ _ _ h hM)
   rw [if_neg hne,z2R hx,if_neg (fun h'=>hof ((z2q hp _ _).1 h')),List.append_nil]
   exact hs.row o f i' h
 ·have hof : ¬ (o=e.obj∧f=e.off):=fun h'=>by rw [h'.1,h'.2,hM] at h;cases h
  rw [z2R hx,if_neg (fun h'=>hof ((z2q hp _ _).1 h')),List.append_nil]
  exact hs.none o f h
def updN (m:Int→Int→Option Nat) (o f:Int) (i:Nat):Int→Int→Option Nat:=fun x y=>if x=o∧y=f then some i else m x y
theorem it_new {l:List Ev} {s:It} (hs:ItOk l s) {e:Ev} (hx:l[s.j]? = some e) (hp:pubK e.kind=true) (hM:s.m e.obj e.off=none) (a b c d:Nat) (ha:a≤s.j+1) (hb:b≤s.j+1) (hc:c≤2*(s.j+1)) (hd:d≤s.j+1):ItOk l ⟨s.j+1,updN s.m e.obj e.off s.R.length,s.R ++ [[s.j]],a,b,c,d⟩:=by
 have h1:=(List.getElem?_eq_some_iff.1 hx).1
 have hlt : ∀ o f i,s.m o f=some i→i<s.R.length:=fun o f i h=>(List.getElem?_eq_some_iff.1 (hs.row o f i h)).1
 refine ⟨h1,by have:=hs.R;simp;omega,fun o f i' h=>?_,fun o f h=>?_,fun o f o' f' i h h'=>?_,ha,hb,hc,hd⟩
 ·simp only [updN] at h
  split at h
  ·rename_i hof
   obtain ⟨rfl,rfl⟩:=hof
   cases h
   rw [List.getElem?_append_right (Nat.le_refl _),Nat.sub_self,z2R hx,if_pos ((z2q hp _ _).2 ⟨rfl,rfl⟩),hs.none _ _ hM];rfl
  ·rename_i hof
   rw [List.getElem?_append_left (hlt o f i' h),z2R hx,if_neg (fun h'=>hof ((z2q hp _ _).1 h')),List.append_nil]
   exact hs.row o f i' h
 ·simp only [updN] at h
  split at h
  ·cases h
  ·rename_i hof
   rw [z2R hx,if_neg (fun h'=>hof ((z2q hp _ _).1 h')),List.append_nil]
   exact hs.none o f h
 ·simp only [updN] at h h'
  split at h
  ·rename_i hof
   cases h
   split at h'
   ·rename_i hof'
    exact ⟨hof.1.trans hof'.1.symm,hof.2.trans hof'.2.symm⟩
   ·have:=hlt _ _ _ h';omega
  ·split at h'
   ·cases h'
    have:=hlt _ _ _ h;omega
   ·exact hs.inj _ _ _ _ _ h h'
theorem atM_old {B:Nat} {l:List Ev} {s:It} (hs:ItOk l s) {o f:Int} {i:Nat} (hM:s.m o f=some i) (iO:inI o) (iF:inI f) :
  updA (fun k=>(updA (atM B s.m) (kyl o f) (some (.own (i+B))) k).map (AV.sub (i+B) .zB)) (kyl o f) (some (.own (i+B)))=atM B s.m:=by
 funext k
 unfold updA
 by_cases hk:k=kyl o f
 ·subst hk
  rw [if_pos rfl,atM,z6O _ iO iF,hM];rfl
 ·simp only [if_neg hk]
  unfold atM plA
  cases hu:unk k with
  | none=>rfl
  | some q =>
   have hq:=z7F hu
   have hne : ¬(q.1=o∧q.2=f):=fun ⟨h1,h2⟩=>hk (by rw [hq,h1,h2])
   simp only [Option.bind_some]
   cases hm:s.m q.1 q.2 with
   | none=>rfl
   | some i' =>
    have : ¬ i' = i:=fun h'=>by subst h';exact hne (hs.inj _ _ _ _ _ hm hM)
    simp only [Option.map_some,AV.sub]
    rw [if_neg (by omega)]
theorem atM_new {B:Nat} (hB:B=2000010) {l:List Ev} (hl:l.length≤1000000) {s:It} (hs:ItOk l s) {o f:Int} (x:AV) (iO:inI o) (iF:inI f) :
  (fun k=>(updA (updA (atM B s.m) (kyl o f) (some x)) (kyl o f) (some (.own 5000006)) k).map (AV.ren 5000006 (s.R.length+B)))=atM B (updN s.m o f s.R.length):=by
 funext k
 unfold updA
 by_cases hk:k=kyl o f
 ·subst hk
  rw [if_pos rfl,atM,z6O _ iO iF,updN,if_pos ⟨rfl,rfl⟩,Option.map_some,AV.qK,if_pos rfl];rfl
 ·rw [if_neg hk,if_neg hk]
  unfold atM plA
  cases hu:unk k with
  | none=>rfl
  | some q =>
   have hq:=z7F hu
   have hne : ¬(q.1=o∧q.2=f):=fun ⟨h1,h2⟩=>hk (by rw [hq,h1,h2])
   simp only [Option.bind_some,updN]
   rw [if_neg hne]
   cases hm:s.m q.1 q.2 with
   | none=>rfl
   | some i' =>
    have h1:=(List.getElem?_eq_some_iff.1 (hs.row _ _ _ hm)).1
    have h2:=hs.R
    have h3:=hs.j
    rw [Option.map_some,Option.map_some,AV.qK,if_neg (by omega),if_neg (by omega)]
theorem AO.ren_amap (t t' : Nat) (P:Program) (k n:Nat) (f:Lit→Option AV) (q:Option (Nat × Lit)):AO.ren t t' (.amap P k n f q) = .amap P k n (fun l=>(f l).map (AV.ren t t')) q:=rfl
theorem z0S (r:List Nat) (j:Nat):qw r ++ [[PV.val (.int .i64 (j:Int))]]=qw (r ++ [j]):=by simp [qw]
theorem rowsI_set (R:List (List Nat)) (i:Nat) (r:List Nat):List.set (List.map qw R) i (qw r)=List.map qw (R.set i r):=by rw [List.map_set]
theorem new_lk {B:Nat} (hB:B=2000010) {pre:Hp} (hp : ∀ p ∈ pre,5000000≤p.1) {R:List (List (List PV))} (hR:R.length≤1000000) (r:List (List PV)) (tl:Hp) (t:Nat) :
  List.lookup t (pre++(mat 3 1 B (R ++ [r])++tl))=List.lookup t ((R.length+B,.row 3 1 r) :: (pre++(mat 3 1 B R++tl))):=by
 by_cases h:t=R.length+B
 ·subst h
  have hn:pre.lookup (R.length+B)=none:=by
   cases hl:pre.lookup (R.length+B) with
   | none=>rfl
   | some o=>have:=hp _ (qE hl);simp only at this;omega
  rw [zi,qP,hn,qP,z2o,List.getElem?_append_right (Nat.le_refl _),Nat.sub_self];rfl
 ·rw [zb h,qP,qP,qP,qP,z7O,qP,zb (by omega),qf,Option.or_none]
theorem hpI_new {B:Nat} (hB:B=2000010) (o0 o1 o2 o3:AO) {R:List (List Nat)} (hR:R.length≤1000000) (j:Nat) (tl:Hp) (t:Nat) :
  List.lookup t ((5000000,o0) :: (5000001,o1) :: (5000002,o2) :: (5000003,o3) :: (mat 3 1 B ((R ++ [[j]]).map qw)++tl))=List.lookup t ((R.length+B,.row 3 1 [[PV.val (.int .i64 (j:Int))]]) :: (5000000,o0) :: (5000001,o1) :: (5000002,o2) :: (5000003,o3) :: (mat 3 1 B (R.map qw)++tl)):=by
 have h:=new_lk hB (pre := [(5000000,o0),(5000001,o1),(5000002,o2),(5000003,o3)]) (fun p hp=>by
  simp only [List.mem_cons,List.not_mem_nil,or_false] at hp
  rcases hp with rfl|rfl|rfl|rfl <;> simp only [] <;> omega) (R:=R.map qw) (by rw [List.length_map];exact hR) (qw [j]) tl t
 rw [List.length_map] at h
 rw [List.map_append]
 exact h
theorem skip2 {t k a b:Nat} {x y z:AO} {L:Hp} (ha:t ≠ a) (hb:t ≠ b):List.lookup t ((k,x) :: (a,y) :: (b,z) :: L)=List.lookup t ((k,x) :: L):=by
 simp only [zx,if_neg ha,if_neg hb]
theorem lk_end {B:Nat} (hB:B=2000010) {t:Nat} (ht:t<2000000) (o0 o1 o2 o3:AO) (R:List (List (List PV))) (tl:Hp):List.lookup t ((5000000,o0) :: (5000001,o1) :: (5000002,o2) :: (5000003,o3) :: (mat 3 1 B R++tl))=tl.lookup t:=by
 rw [zb (by omega),zb (by omega),zb (by omega),zb (by omega),qP,z3j _ _ _ _ _ (by omega)];rfl
theorem rels_ok (B:Nat) (hB:B=2000010) (l:List Ev) (hl:l.length≤1000000) (hI : ∀ e ∈ l,inI e.g∧inI e.obj∧inI e.off∧(e.kind=14→inI e.k)) (H:List Ed→Hp) (hH : ∀ acc,HpOk 2000000 (H acc)) (y:Nat) (hy:y<2000000) (hv:Value) (hh : ∀ acc,∃ o,(H acc).lookup y=some o∧o.handle=some hv)
  (hyld : ∀ acc x,(∃ r,z0v l l.length=acc++x :: r) → ∃ lr sp fr,(H acc).lookup y=some (.lrec lr sp fr)∧YldC Try.prog lr 2000000 (H acc) [.agg ((edC x).map .p)] fun hp' r=>hp' = H (acc ++ [x])∧r = .bool true) :
  MemC Try.prog 52 2000000 (H []) [.own y,.elt [.seq 9 (l.map evC)] 0] fun hp' r=>hp' = H (z0v l l.length)∧r = .tup []:=by
 refine MemC.of Try.func52 rfl 190 rfl (by decide) ?_;simp only [z0t,frOf]
 have hy4:y<5000004:=by omega
 have hy6:y<5000006:=by omega
 have hy7:y<5000007:=by omega
 refine T.weak (zk.upN _ 5000000 (by simp)) ?_
 repeat' (first|refine T.zh fun K hK=>?_|refine T.block ?_|(refine T.reg (by kernel_rfl) fun K' hK'=>?_;simp only [bz];(repeat' (first|(with_reducible refine WL.fin ?_;refine hK' _ ?_;clear hK' K')|((with_reducible refine WL.step fun K2 hK2=>?_);simp only [simprocAttr,implies_true,amz,tys];(repeat' with_reducible (first|(refine hK2 _ ?_;clear hK2 K2)|refine And.intro ?_ ?_|intro hb))))))|refine T.skip ?_|refine T.exit ?_|refine T.zf rfl ?_|refine T.ze rfl ?_|refine T.cond rfl (fun hc=>?_) (fun hc=>?_)|refine T.ret ?_|simp only [za,z8,reduceIte,Nat.reduceEqDiff]|((repeat ((fail_if_success (refine hK _ ?_));clear hK K));refine hK _ ?_;clear hK K))
 refine T.weak (zk.toM _ 5000002 none Try.prog 85 0 (by simp only [zx,Nat.reduceEqDiff,reduceIte])) ?_
 simp only [zG,List.map_cons,List.map_nil,Nat.reduceEqDiff,reduceIte,(hH []).set,Nat.reduceLeDiff]
 refine T.qc (fun s:It=>⟨[(0,.own y),(1,.elt [.seq 9 (l.map evC)] 0),(3,.own 5000000),(4,.own 5000001),(5,.own 5000002),(6,.own 5000003),(25,.p (.seq 9 (l.map evC))),(26,.int l.length),(27,.int s.j)],hpI B l s (H (z0v l s.j)),190,5000004⟩) (ItOk l) (fun s=>l.length-s.j) ⟨0,fun _ _=>none,[],0,0,0,0⟩ ?_ ?_ ?_
 ·exact ⟨Nat.zero_le _,Nat.zero_le _,fun o f i h=>(by cases h),fun o f _=>rfl,fun o f o' f' i h=>(by cases h),Nat.le_refl _,Nat.le_refl _,Nat.zero_le _,Nat.le_refl _⟩
 ·refine zk.frm _ _ _ _ (fun t=>?_) (by simp only [wks,reduceIte,Nat.reduceEqDiff,implies_true,and_self,Int.natCast_zero,hy4]) (by simp only [wks,AV.okB,Nat.reduceLT,decide_true,List.all_cons,List.all_nil,Bool.and_self,Int.natCast_zero,hy4]) ?_
  ·have e1:(inM nI fun g=>z03 l (fun d=>d.g==g) 0)=fun _=>none:=z7i nI
   have e2:(inM nI fun g=>z03 l (z0o g) 0)=fun _=>none:=z7i nI
   have e3:atM B (fun _ _=>none)=fun _=>none:=plA_none
   have e4:(plM nI fun o f=>z03 l (wrAt o f) 0)=fun _=>none:=z9D nI
   simp only [hpI,e1,e2,e3,e4,List.map_nil,mat,List.nil_append,z0v,zx]
   repeat' split
   all_goals first|rfl|omega
  ·exact z1d hB hl ⟨Nat.zero_le _,Nat.zero_le _,fun o f i h=>(by cases h),fun o f _=>rfl,fun o f o' f' i h=>(by cases h),Nat.le_refl _,Nat.le_refl _,Nat.zero_le _,Nat.le_refl _⟩ (hH _)
 intro s hs KL hKL
 have hR:(s.R.map qw).length≤1000000:=by have:=hs.R;have:=hs.j;simp;omega
 have ht:=hH (z0v l s.j)
 by_cases hlt:s.j<l.length
 ·obtain ⟨e,hx⟩:=zT hlt
  have hd:decide ((s.j:Int)<(l.length:Int))=true:=by simpa using hlt
  simp only [hpI]
  obtain ⟨rest,hrest⟩ : ∃ r,z0v l l.length=z0v l s.j++(z3R l e s.j++(z1c l e s.j (atL l e.obj e.off s.j)++(z2N l e s.j++r))):=by
   obtain ⟨r,hr⟩:=z8k (l:=l) l.length (s.j+1) (by omega)
   exact ⟨r,by rw [hr,z3D hx,z4s];simp only [List.append_assoc]⟩
  obtain ⟨acc,hacc⟩ : ∃ acc,acc=z0v l s.j:=⟨_,rfl⟩
  rw [← hacc] at hrest ht ⊢
  obtain ⟨iG,iO,iF,iK⟩:=hI e (List.mem_of_getElem? hx)
  repeat' (first|refine T.zh fun K hK=>?_|refine T.block ?_|refine T.skip ?_|refine T.exit ?_|refine T.zf rfl ?_|refine T.ze rfl ?_|refine T.cond rfl (fun hc=>?_) (fun hc=>?_)|refine T.ret ?_|simp only [za,z8,reduceIte,Nat.reduceEqDiff]|((repeat ((fail_if_success (refine hK _ ?_));clear hK K));refine hK _ ?_;clear hK K))
  (refine T.reg (by kernel_rfl) fun K' hK'=>?_;simp only [bz];(repeat' (first|(with_reducible refine WL.fin ?_;refine hK' _ ?_;clear hK' K')|((with_reducible refine WL.step fun K2 hK2=>?_);simp only [simprocAttr,implies_true,amz,tys,hx,hd,evC,zR hB hR ht,z0y hB hR ht,hR];(repeat' with_reducible (first|(refine hK2 _ ?_;clear hK2 K2)|refine And.intro ?_ ?_|intro hb)))));all_goals ((try simp only [za,z8,reduceIte,Nat.reduceEqDiff]);(try ((repeat ((fail_if_success (refine hK _ ?_));clear hK K));refine hK _ ?_;clear hK K))))
  repeat' (first|refine T.zh fun K hK=>?_|refine T.block ?_|refine T.skip ?_|refine T.exit ?_|refine T.zf rfl ?_|refine T.ze rfl ?_|refine T.cond rfl (fun hc=>?_) (fun hc=>?_)|refine T.ret ?_|simp only [za,z8,reduceIte,Nat.reduceEqDiff]|((repeat ((fail_if_success (refine hK _ ?_));clear hK K));refine hK _ ?_;clear hK K))
  (refine T.reg (by kernel_rfl) fun K' hK'=>?_;simp only [bz];(repeat' (first|(with_reducible refine WL.fin ?_;refine hK' _ ?_;clear hK' K')|((with_reducible refine WL.step fun K2 hK2=>?_);simp only [simprocAttr,implies_true,amz,tys,hx,hd,evC,zR hB hR ht,z0y hB hR ht,hR];(repeat' with_reducible (first|(refine hK2 _ ?_;clear hK2 K2)|refine And.intro ?_ ?_|intro hb)))));all_goals ((try simp only [za,z8,reduceIte,Nat.reduceEqDiff]);(try ((repeat ((fail_if_success (refine hK _ ?_));clear hK K));refine hK _ ?_;clear hK K))))
  repeat' (first|refine T.zh fun K hK=>?_|refine T.block ?_|refine T.skip ?_|refine T.exit ?_|refine T.zf rfl ?_|refine T.ze rfl ?_|refine T.cond rfl (fun hc=>?_) (fun hc=>?_)|refine T.ret ?_|simp only [za,z8,reduceIte,Nat.reduceEqDiff]|((repeat ((fail_if_success (refine hK _ ?_));clear hK K));refine hK _ ?_;clear hK K))
  (refine T.reg (by kernel_rfl) fun K' hK'=>?_;simp only [bz];(repeat' (first|(with_reducible refine WL.fin ?_;refine hK' _ ?_;clear hK' K')|((with_reducible refine WL.step fun K2 hK2=>?_);simp only [simprocAttr,implies_true,amz,tys,hx,hd,evC,zR hB hR ht,z0y hB hR ht,hR];(repeat' with_reducible (first|(refine hK2 _ ?_;clear hK2 K2)|refine And.intro ?_ ?_|intro hb)))));all_goals ((try simp only [za,z8,reduceIte,Nat.reduceEqDiff]);(try ((repeat ((fail_if_success (refine hK _ ?_));clear hK K));refine hK _ ?_;clear hK K))))
  refine T.zh fun K hK=>?_
  suffices hmid : ∀ s',zk s' ⟨frI l y s.j,ownI B l e s++H (acc++z3R l e s.j),190,5000006⟩→K s' by
   clear hK
   have hK:=hmid
   clear hmid
   cases hA:z03 l (fun d=>d.g==e.g) s.j with
   | some i =>
    have hrA:z3R l e s.j = [⟨i,s.j,0⟩]:=by rw [z3R,hA]
    rw [hrA] at hK hrest
    obtain ⟨lr,sp,fr0,hlk0,hyc0⟩:=hyld acc ⟨i,s.j,0⟩ ⟨_,hrest⟩
    simp only [edC,List.map_cons,List.map_nil] at hyc0
    repeat' (first|refine T.zh fun K hK=>?_|refine T.block ?_|refine T.skip ?_|refine T.exit ?_|refine T.zf rfl ?_|refine T.ze rfl ?_|refine T.cond rfl (fun hc=>?_) (fun hc=>?_)|refine T.ret ?_|simp only [za,z8,reduceIte,Nat.reduceEqDiff]|((repeat ((fail_if_success (refine hK _ ?_));clear hK K));refine hK _ ?_;clear hK K))
    (refine T.reg (by kernel_rfl) fun K' hK'=>?_;simp only [bz];(repeat' (first|(with_reducible refine WL.fin ?_;refine hK' _ ?_;clear hK' K')|((with_reducible refine WL.step fun K2 hK2=>?_);simp only [simprocAttr,implies_true,amz,tys,hA,z00,qW iG,z6M,nI,zR hB hR ht,z0y hB hR ht,hR,Option.isSome_some];(repeat' with_reducible (first|(refine hK2 _ ?_;clear hK2 K2)|refine And.intro ?_ ?_|intro hb)))));all_goals ((try simp only [za,z8,reduceIte,Nat.reduceEqDiff]);(try ((repeat ((fail_if_success (refine hK _ ?_));clear hK K));refine hK _ ?_;clear hK K))))
    repeat' (first|refine T.zh fun K hK=>?_|refine T.block ?_|refine T.skip ?_|refine T.exit ?_|refine T.zf rfl ?_|refine T.ze rfl ?_|refine T.cond rfl (fun hc=>?_) (fun hc=>?_)|refine T.ret ?_|simp only [za,z8,reduceIte,Nat.reduceEqDiff]|((repeat ((fail_if_success (refine hK _ ?_));clear hK K));refine hK _ ?_;clear hK K))
    (refine T.reg (by kernel_rfl) fun K' hK'=>?_;simp only [bz];(repeat' (first|(with_reducible refine WL.fin ?_;refine hK' _ ?_;clear hK' K')|((with_reducible refine WL.step fun K2 hK2=>?_);simp only [simprocAttr,implies_true,amz,tys];(repeat' with_reducible (first|(refine hK2 _ ?_;clear hK2 K2)|refine And.intro ?_ ?_|intro hb)))));all_goals ((try simp only [za,z8,reduceIte,Nat.reduceEqDiff]);(try ((repeat ((fail_if_success (refine hK _ ?_));clear hK K));refine hK _ ?_;clear hK K))))
    repeat' (first|refine T.zh fun K hK=>?_|refine T.block ?_|refine T.skip ?_|refine T.exit ?_|refine T.zf rfl ?_|refine T.ze rfl ?_|refine T.cond rfl (fun hc=>?_) (fun hc=>?_)|refine T.ret ?_|simp only [za,z8,reduceIte,Nat.reduceEqDiff]|((repeat ((fail_if_success (refine hK _ ?_));clear hK K));refine hK _ ?_;clear hK K))
    refine T.regI (by kernel_rfl) fun K' hK'=>?_;simp only [List.map_cons,List.map_nil]
    iterate 4 ((with_reducible refine WLI.z0z fun K2 hK2=>?_);simp only [simprocAttr,implies_true,amz,tys];(repeat' (first|with_reducible (first|(refine hK2 _ ?_;clear hK2 K2)|refine And.intro ?_ ?_|intro hb))))
    (with_reducible refine WLI.z9a fun K2 hK2=>?_);simp only [WSY,WY,simprocAttr,implies_true,amz,tys];(refine z6B.of 2000000 (ownI B l e s) (H (acc)) (H (acc ++ [⟨i,s.j,0⟩])) _ _ _ rfl (z19 hB _ _ _) ?_ (hH _) hyc0 hlk0 (z9o hh _ _) (by decide) (by simp [AV.okB,AV.qa]) ?_);(focus (simp only [z1J hB,List.map_cons,AO.z1S,AV.ql,List.map_nil,evC];done));refine hK2 _ ?_;clear hK2 K2;(refine WLI.weak (zk.hpe _ (ownI B l e s++H (acc ++ [⟨i,s.j,0⟩])) (z4d (z19 hB _ _ _) (hH _))) ?_);simp only [List.map_cons,List.map_nil,AV.zU,AV.zS,AV.zM,AV.zW,AV.ql,AV.zY,AV.zJ,AV.zL,AV.qh,AV.zZ,AV.zX,Nat.reduceLeDiff,true_or,reduceIte,List.mem_singleton,or_true,ownI,List.cons_append,zH,tys]
    (with_reducible refine WLI.z0z fun K2 hK2=>?_);simp only [simprocAttr,implies_true,amz,tys];(repeat' (first|with_reducible (first|(refine hK2 _ ?_;clear hK2 K2)|refine And.intro ?_ ?_|intro hb)))
    (with_reducible refine WLI.fin ?_);refine hK' _ ?_;clear hK' K';(try simp only [za,z8,reduceIte,Nat.reduceEqDiff]);(try ((repeat ((fail_if_success (refine hK _ ?_));clear hK K));refine hK _ ?_;clear hK K))
    repeat' (first|refine T.zh fun K hK=>?_|refine T.block ?_|(refine T.reg (by kernel_rfl) fun K' hK'=>?_;simp only [bz];(repeat' (first|(with_reducible refine WL.fin ?_;refine hK' _ ?_;clear hK' K')|((with_reducible refine WL.step fun K2 hK2=>?_);simp only [simprocAttr,implies_true,amz,tys];(repeat' with_reducible (first|(refine hK2 _ ?_;clear hK2 K2)|refine And.intro ?_ ?_|intro hb))))))|refine T.skip ?_|refine T.exit ?_|refine T.zf rfl ?_|refine T.ze rfl ?_|refine T.cond rfl (fun hc=>?_) (fun hc=>?_)|refine T.ret ?_|simp only [za,z8,reduceIte,Nat.reduceEqDiff]|((repeat ((fail_if_success (refine hK _ ?_));clear hK K));refine hK _ ?_;clear hK K))
    refine zk.frm _ _ _ _ (fun t=>?_) (by simp only [wks,reduceIte,Nat.reduceEqDiff,implies_true,and_self,frI,hy6,]) (by simp only [wks,AV.okB,Nat.reduceLT,decide_true,List.all_cons,List.all_nil,Bool.and_self,frI,hy6,]) ?_;(focus (first|rfl|(simp only [ownI,List.cons_append];done)));exact z0i hB hl hs (hH _)
   | none =>
    cases hS:z03 l (z0o e.g) s.j with
    | some i =>
     have hrA:z3R l e s.j = [⟨i,s.j,e.kind⟩]:=by rw [z3R,hA,hS]
     rw [hrA] at hK hrest
     obtain ⟨lr,sp,fr0,hlk0,hyc0⟩:=hyld acc ⟨i,s.j,e.kind⟩ ⟨_,hrest⟩
     simp only [edC,List.map_cons,List.map_nil] at hyc0
     repeat' (first|refine T.zh fun K hK=>?_|refine T.block ?_|refine T.skip ?_|refine T.exit ?_|refine T.zf rfl ?_|refine T.ze rfl ?_|refine T.cond rfl (fun hc=>?_) (fun hc=>?_)|refine T.ret ?_|simp only [za,z8,reduceIte,Nat.reduceEqDiff]|((repeat ((fail_if_success (refine hK _ ?_));clear hK K));refine hK _ ?_;clear hK K))
     (refine T.reg (by kernel_rfl) fun K' hK'=>?_;simp only [bz];(repeat' (first|(with_reducible refine WL.fin ?_;refine hK' _ ?_;clear hK' K')|((with_reducible refine WL.step fun K2 hK2=>?_);simp only [simprocAttr,implies_true,amz,tys,hA,z00,qW iG,z6M,nI,zR hB hR ht,z0y hB hR ht,Option.isSome_none];(repeat' with_reducible (first|(refine hK2 _ ?_;clear hK2 K2)|refine And.intro ?_ ?_|intro hb)))));all_goals ((try simp only [za,z8,reduceIte,Nat.reduceEqDiff]);(try ((repeat ((fail_if_success (refine hK _ ?_));clear hK K));refine hK _ ?_;clear hK K))))
     repeat' (first|refine T.zh fun K hK=>?_|refine T.block ?_|refine T.skip ?_|refine T.exit ?_|refine T.zf rfl ?_|refine T.ze rfl ?_|refine T.cond rfl (fun hc=>?_) (fun hc=>?_)|refine T.ret ?_|simp only [za,z8,reduceIte,Nat.reduceEqDiff]|((repeat ((fail_if_success (refine hK _ ?_));clear hK K));refine hK _ ?_;clear hK K))
     (refine T.reg (by kernel_rfl) fun K' hK'=>?_;simp only [bz];(repeat' (first|(with_reducible refine WL.fin ?_;refine hK' _ ?_;clear hK' K')|((with_reducible refine WL.step fun K2 hK2=>?_);simp only [simprocAttr,implies_true,amz,tys];(repeat' with_reducible (first|(refine hK2 _ ?_;clear hK2 K2)|refine And.intro ?_ ?_|intro hb)))));all_goals ((try simp only [za,z8,reduceIte,Nat.reduceEqDiff]);(try ((repeat ((fail_if_success (refine hK _ ?_));clear hK K));refine hK _ ?_;clear hK K))))
     repeat' (first|refine T.zh fun K hK=>?_|refine T.block ?_|refine T.skip ?_|refine T.exit ?_|refine T.zf rfl ?_|refine T.ze rfl ?_|refine T.cond rfl (fun hc=>?_) (fun hc=>?_)|refine T.ret ?_|simp only [za,z8,reduceIte,Nat.reduceEqDiff]|((repeat ((fail_if_success (refine hK _ ?_));clear hK K));refine hK _ ?_;clear hK K))
     (refine T.reg (by kernel_rfl) fun K' hK'=>?_;simp only [bz];(repeat' (first|(with_reducible refine WL.fin ?_;refine hK' _ ?_;clear hK' K')|((with_reducible refine WL.step fun K2 hK2=>?_);simp only [simprocAttr,implies_true,amz,tys,hS,z00,qW iG,z6M,nI,zR hB hR ht,z0y hB hR ht,Option.isSome_some];(repeat' with_reducible (first|(refine hK2 _ ?_;clear hK2 K2)|refine And.intro ?_ ?_|intro hb)))));all_goals ((try simp only [za,z8,reduceIte,Nat.reduceEqDiff]);(try ((repeat ((fail_if_success (refine hK _ ?_));clear hK K));refine hK _ ?_;clear hK K))))
     repeat' (first|refine T.zh fun K hK=>?_|refine T.block ?_|refine T.skip ?_|refine T.exit ?_|refine T.zf rfl ?_|refine T.ze rfl ?_|refine T.cond rfl (fun hc=>?_) (fun hc=>?_)|refine T.ret ?_|simp only [za,z8,reduceIte,Nat.reduceEqDiff]|((repeat ((fail_if_success (refine hK _ ?_));clear hK K));refine hK _ ?_;clear hK K))
     (refine T.reg (by kernel_rfl) fun K' hK'=>?_;simp only [bz];(repeat' (first|(with_reducible refine WL.fin ?_;refine hK' _ ?_;clear hK' K')|((with_reducible refine WL.step fun K2 hK2=>?_);simp only [simprocAttr,implies_true,amz,tys];(repeat' with_reducible (first|(refine hK2 _ ?_;clear hK2 K2)|refine And.intro ?_ ?_|intro hb)))));all_goals ((try simp only [za,z8,reduceIte,Nat.reduceEqDiff]);(try ((repeat ((fail_if_success (refine hK _ ?_));clear hK K));refine hK _ ?_;clear hK K))))
     repeat' (first|refine T.zh fun K hK=>?_|refine T.block ?_|refine T.skip ?_|refine T.exit ?_|refine T.zf rfl ?_|refine T.ze rfl ?_|refine T.cond rfl (fun hc=>?_) (fun hc=>?_)|refine T.ret ?_|simp only [za,z8,reduceIte,Nat.reduceEqDiff]|((repeat ((fail_if_success (refine hK _ ?_));clear hK K));refine hK _ ?_;clear hK K))
     refine T.regI (by kernel_rfl) fun K' hK'=>?_;simp only [List.map_cons,List.map_nil]
     iterate 6 ((with_reducible refine WLI.z0z fun K2 hK2=>?_);simp only [simprocAttr,implies_true,amz,tys];(repeat' (first|with_reducible (first|(refine hK2 _ ?_;clear hK2 K2)|refine And.intro ?_ ?_|intro hb))))
     (with_reducible refine WLI.z9a fun K2 hK2=>?_);simp only [WSY,WY,simprocAttr,implies_true,amz,tys];(refine z6B.of 2000000 (ownI B l e s) (H (acc)) (H (acc ++ [⟨i,s.j,e.kind⟩])) _ _ _ rfl (z19 hB _ _ _) ?_ (hH _) hyc0 hlk0 (z9o hh _ _) (by decide) (by simp [AV.okB,AV.qa]) ?_);(focus (simp only [z1J hB,List.map_cons,AO.z1S,AV.ql,List.map_nil,evC];done));refine hK2 _ ?_;clear hK2 K2;(refine WLI.weak (zk.hpe _ (ownI B l e s++H (acc ++ [⟨i,s.j,e.kind⟩])) (z4d (z19 hB _ _ _) (hH _))) ?_);simp only [List.map_cons,List.map_nil,AV.zU,AV.zS,AV.zM,AV.zW,AV.ql,AV.zY,AV.zJ,AV.zL,AV.qh,AV.zZ,AV.zX,Nat.reduceLeDiff,true_or,reduceIte,List.mem_singleton,or_true,ownI,List.cons_append,zH,tys]
     (with_reducible refine WLI.z0z fun K2 hK2=>?_);simp only [simprocAttr,implies_true,amz,tys];(repeat' (first|with_reducible (first|(refine hK2 _ ?_;clear hK2 K2)|refine And.intro ?_ ?_|intro hb)))
     (with_reducible refine WLI.fin ?_);refine hK' _ ?_;clear hK' K';(try simp only [za,z8,reduceIte,Nat.reduceEqDiff]);(try ((repeat ((fail_if_success (refine hK _ ?_));clear hK K));refine hK _ ?_;clear hK K))
     repeat' (first|refine T.zh fun K hK=>?_|refine T.block ?_|(refine T.reg (by kernel_rfl) fun K' hK'=>?_;simp only [bz];(repeat' (first|(with_reducible refine WL.fin ?_;refine hK' _ ?_;clear hK' K')|((with_reducible refine WL.step fun K2 hK2=>?_);simp only [simprocAttr,implies_true,amz,tys];(repeat' with_reducible (first|(refine hK2 _ ?_;clear hK2 K2)|refine And.intro ?_ ?_|intro hb))))))|refine T.skip ?_|refine T.exit ?_|refine T.zf rfl ?_|refine T.ze rfl ?_|refine T.cond rfl (fun hc=>?_) (fun hc=>?_)|refine T.ret ?_|simp only [za,z8,reduceIte,Nat.reduceEqDiff]|((repeat ((fail_if_success (refine hK _ ?_));clear hK K));refine hK _ ?_;clear hK K))
     refine zk.frm _ _ _ _ (fun t=>?_) (by simp only [wks,reduceIte,Nat.reduceEqDiff,implies_true,and_self,frI,hy6,]) (by simp only [wks,AV.okB,Nat.reduceLT,decide_true,List.all_cons,List.all_nil,Bool.and_self,frI,hy6,]) ?_;(focus (first|rfl|(simp only [ownI,List.cons_append];done)));exact z0i hB hl hs (hH _)
    | none =>
     have hrA:z3R l e s.j = []:=by rw [z3R,hA,hS]
     rw [hrA,List.append_nil] at hK
     repeat' (first|refine T.zh fun K hK=>?_|refine T.block ?_|(refine T.reg (by kernel_rfl) fun K' hK'=>?_;simp only [bz];(repeat' (first|(with_reducible refine WL.fin ?_;refine hK' _ ?_;clear hK' K')|((with_reducible refine WL.step fun K2 hK2=>?_);simp only [simprocAttr,implies_true,amz,tys,hA,hS,z00,qW iG,z6M,nI,zR hB hR ht,z0y hB hR ht,Option.isSome_none];(repeat' with_reducible (first|(refine hK2 _ ?_;clear hK2 K2)|refine And.intro ?_ ?_|intro hb))))))|refine T.skip ?_|refine T.exit ?_|refine T.zf rfl ?_|refine T.ze rfl ?_|refine T.cond rfl (fun hc=>?_) (fun hc=>?_)|refine T.ret ?_|simp only [za,z8,reduceIte,Nat.reduceEqDiff]|((repeat ((fail_if_success (refine hK _ ?_));clear hK K));refine hK _ ?_;clear hK K))
     refine zk.frm _ _ _ _ (fun t=>?_) (by simp only [wks,reduceIte,Nat.reduceEqDiff,implies_true,and_self,frI,hy6,]) (by simp only [wks,AV.okB,Nat.reduceLT,decide_true,List.all_cons,List.all_nil,Bool.and_self,frI,hy6,]) ?_;(focus (first|rfl|(simp only [ownI,List.cons_append];done)));exact z0i hB hl hs (hH _)
  intro s' hw
  refine hK s' ?_
  refine T.weak hw ?_
  clear hK hw s' K ht
  obtain ⟨acc1,hacc1⟩ : ∃ a,a=acc++z3R l e s.j:=⟨_,rfl⟩
  rw [← hacc1]
  rw [← List.append_assoc,← hacc1] at hrest
  have ht:=hH acc1
  refine T.zh fun K hK=>?_
  suffices hmid : ∀ s',zk s' ⟨frI l y s.j,ownI B l e s++H (acc1++z1c l e s.j (atL l e.obj e.off s.j)),190,5000006⟩→K s' by
   clear hK
   have hK:=hmid
   clear hmid
   simp only [frI,ownI,List.cons_append]
   cases hM:s.m e.obj e.off with
   | none =>
    have hrI:z1c l e s.j (atL l e.obj e.off s.j) = []:=by rw [hs.none _ _ hM];rfl
    rw [hrI,List.append_nil] at hK
    have hat:atM B s.m (kyl e.obj e.off)=none:=by rw [atM,z6O _ iO iF,hM];rfl
    repeat' (first|refine T.zh fun K hK=>?_|refine T.block ?_|(refine T.reg (by kernel_rfl) fun K' hK'=>?_;simp only [bz];(repeat' (first|(with_reducible refine WL.fin ?_;refine hK' _ ?_;clear hK' K')|((with_reducible refine WL.step fun K2 hK2=>?_);simp only [simprocAttr,implies_true,amz,tys,z1l,z1n iO iF,hat,zR hB hR ht,z0y hB hR ht];(repeat' with_reducible (first|(refine hK2 _ ?_;clear hK2 K2)|refine And.intro ?_ ?_|intro hb))))))|refine T.skip ?_|refine T.exit ?_|refine T.zf rfl ?_|refine T.ze rfl ?_|refine T.cond rfl (fun hc=>?_) (fun hc=>?_)|refine T.ret ?_|simp only [za,z8,reduceIte,Nat.reduceEqDiff]|((repeat ((fail_if_success (refine hK _ ?_));clear hK K));refine hK _ ?_;clear hK K))
    refine T.qc (fun q:Nat=>⟨frI l y s.j ++ [(70,.int 0),(71,.int 0)],ownI B l e s++H acc1,190,5000006⟩) (fun q=>q=0) (fun q => 0) 0 rfl (by refine zk.frm _ _ _ _ (fun t=>?_) (by simp only [wks,reduceIte,Nat.reduceEqDiff,implies_true,and_self,frI,hy6,List.cons_append,List.nil_append]) (by simp only [wks,AV.okB,Nat.reduceLT,decide_true,List.all_cons,List.all_nil,Bool.and_self,frI,hy6,List.cons_append,List.nil_append]) ?_;(focus (first|rfl|(simp only [ownI,List.cons_append];done)));exact z0i hB hl hs (hH _)) ?_
    rintro q rfl KL hKL
    simp only [frI,ownI,List.cons_append,List.nil_append]
    have hd0:decide ((0:Int)<0)=false:=by decide
    repeat' (first|refine T.zh fun K hK=>?_|refine T.block ?_|(refine T.reg (by kernel_rfl) fun K' hK'=>?_;simp only [bz];(repeat' (first|(with_reducible refine WL.fin ?_;refine hK' _ ?_;clear hK' K')|((with_reducible refine WL.step fun K2 hK2=>?_);simp only [simprocAttr,implies_true,amz,tys,hd0];(repeat' with_reducible (first|(refine hK2 _ ?_;clear hK2 K2)|refine And.intro ?_ ?_|intro hb))))))|refine T.skip ?_|refine T.exit ?_|refine T.zf rfl ?_|refine T.ze rfl ?_|refine T.cond rfl (fun hc=>?_) (fun hc=>?_)|refine T.ret ?_|simp only [za,z8,reduceIte,Nat.reduceEqDiff]|((repeat ((fail_if_success (refine hK _ ?_));clear hK K));refine hK _ ?_;clear hK K))
    refine zk.frm _ _ _ _ (fun t=>?_) (by simp only [wks,reduceIte,Nat.reduceEqDiff,implies_true,and_self,frI,hy6,]) (by simp only [wks,AV.okB,Nat.reduceLT,decide_true,List.all_cons,List.all_nil,Bool.and_self,frI,hy6,]) ?_;(focus (first|rfl|(simp only [ownI,List.cons_append];done)));exact z0i hB hl hs (hH _)
   | some i =>
    obtain ⟨r,hr⟩ : ∃ r,r=atL l e.obj e.off s.j:=⟨_,rfl⟩
    have hrow:=hs.row _ _ _ hM
    rw [← hr] at hrow hK
    have hrw:=tl_row (B:=B) ht (z7u hrow)
    have hat:atM B s.m (kyl e.obj e.off)=some (.own (i+B)):=by rw [atM,z6O _ iO iF,hM];rfl
    have hi6:i<1000000:=by have:=(List.getElem?_eq_some_iff.1 hrow).1;have:=hs.R;have:=hs.j;omega
    have n0:(i+B=5000000)=False:=by simp;omega
    have n1:(i+B=5000001)=False:=by simp;omega
    have n2:(i+B=5000002)=False:=by simp;omega
    have n3:(i+B=5000003)=False:=by simp;omega
    have n4:(i+B=5000004)=False:=by simp;omega
    have n5:(i+B=5000005)=False:=by simp;omega
    have n6:(i+B=5000006)=False:=by simp;omega
    have hi7:(i+B<5000006)=True:=by simp;omega
    have hi8:(i+B<5000007)=True:=by simp;omega
    have hiB:(2000000≤i+B)=True:=by simp;omega
    have hrn:r.length≤1000000:=by
     rw [hr]
     have:=List.length_filter_le (fun k=>(l[k]?).any (z4r e.obj e.off)) (List.range s.j)
     rw [List.length_range] at this
     have h2:=hs.j
     unfold atL
     omega
    repeat' (first|refine T.zh fun K hK=>?_|refine T.block ?_|(refine T.reg (by kernel_rfl) fun K' hK'=>?_;simp only [bz];(repeat' (first|(with_reducible refine WL.fin ?_;refine hK' _ ?_;clear hK' K')|((with_reducible refine WL.step fun K2 hK2=>?_);simp only [simprocAttr,implies_true,amz,tys,z1l,z1n iO iF,hat,zR hB hR ht,z0y hB hR ht,hrw,qJ,n0,n1,n2,n3,n4,n5,n6];(repeat' with_reducible (first|(refine hK2 _ ?_;clear hK2 K2)|refine And.intro ?_ ?_|intro hb))))))|refine T.skip ?_|refine T.exit ?_|refine T.zf rfl ?_|refine T.ze rfl ?_|refine T.cond rfl (fun hc=>?_) (fun hc=>?_)|refine T.ret ?_|simp only [za,z8,reduceIte,Nat.reduceEqDiff]|((repeat ((fail_if_success (refine hK _ ?_));clear hK K));refine hK _ ?_;clear hK K))
    refine T.qc (fun q:Nat=>⟨frI l y s.j ++ [(69,.own (i+B)),(70,.int r.length),(71,.int q)],ownI B l e s++H (acc1++z1c l e s.j (r.take q)),190,5000006⟩) (fun q=>q≤r.length) (fun q=>r.length-q) 0 (Nat.zero_le _) ?_ ?_
    ·have h0:acc1++z1c l e s.j (r.take 0)=acc1:=by simp [z1c]
     simp only [h0]
     refine zk.frm _ _ _ _ (fun t=>?_) (by simp only [wks,reduceIte,Nat.reduceEqDiff,implies_true,and_self,frI,hy6,hi7,List.cons_append,List.nil_append,Int.natCast_zero]) (by simp only [wks,AV.okB,Nat.reduceLT,decide_true,List.all_cons,List.all_nil,Bool.and_self,frI,hy6,hi7,List.cons_append,List.nil_append,Int.natCast_zero]) ?_;(focus (first|rfl|(simp only [ownI,List.cons_append];done)));exact z0i hB hl hs (hH _)
    intro q hq KL hKL
    obtain ⟨acc2,hacc2⟩ : ∃ a,a=acc1++z1c l e s.j (r.take q):=⟨_,rfl⟩
    rw [← hacc2]
    have ht2:=hH acc2
    have hrw2:=tl_row (B:=B) ht2 (z7u hrow)
    simp only [frI,ownI,List.cons_append,List.nil_append]
    by_cases hqr:q<r.length
    ·have hdq:decide ((q:Int)<(r.length:Int))=true:=by simpa using hqr
     obtain ⟨ii,hii⟩:=zT hqr
     obtain ⟨hij,_⟩:=atL_mem (hr ▸ List.mem_of_getElem? hii)
     obtain ⟨f,hf⟩:=zT (show ii<l.length by omega)
     have hrat:=z3v hii
     repeat' (first|refine T.zh fun K hK=>?_|refine T.block ?_|refine T.skip ?_|refine T.exit ?_|refine T.zf rfl ?_|refine T.ze rfl ?_|refine T.cond rfl (fun hc=>?_) (fun hc=>?_)|refine T.ret ?_|simp only [za,z8,reduceIte,Nat.reduceEqDiff]|((repeat ((fail_if_success (refine hK _ ?_));clear hK K));refine hK _ ?_;clear hK K))
     (refine T.reg (by kernel_rfl) fun K' hK'=>?_;simp only [bz];(repeat' (first|(with_reducible refine WL.fin ?_;refine hK' _ ?_;clear hK' K')|((with_reducible refine WL.step fun K2 hK2=>?_);simp only [simprocAttr,implies_true,amz,tys,hdq];(repeat' with_reducible (first|(refine hK2 _ ?_;clear hK2 K2)|refine And.intro ?_ ?_|intro hb)))));all_goals ((try simp only [za,z8,reduceIte,Nat.reduceEqDiff]);(try ((repeat ((fail_if_success (refine hK _ ?_));clear hK K));refine hK _ ?_;clear hK K))))
     repeat' (first|refine T.zh fun K hK=>?_|refine T.block ?_|refine T.skip ?_|refine T.exit ?_|refine T.zf rfl ?_|refine T.ze rfl ?_|refine T.cond rfl (fun hc=>?_) (fun hc=>?_)|refine T.ret ?_|simp only [za,z8,reduceIte,Nat.reduceEqDiff]|((repeat ((fail_if_success (refine hK _ ?_));clear hK K));refine hK _ ?_;clear hK K))
     (refine T.reg (by kernel_rfl) fun K' hK'=>?_;simp only [bz];(repeat' (first|(with_reducible refine WL.fin ?_;refine hK' _ ?_;clear hK' K')|((with_reducible refine WL.step fun K2 hK2=>?_);simp only [simprocAttr,implies_true,amz,tys,hqr,hrw2,hrat,qJ,zR hB hR ht2,z0y hB hR ht2,n0,n1,n2,n3,n4,n5,n6];(repeat' with_reducible (first|(refine hK2 _ ?_;clear hK2 K2)|refine And.intro ?_ ?_|intro hb)))));all_goals ((try simp only [za,z8,reduceIte,Nat.reduceEqDiff]);(try ((repeat ((fail_if_success (refine hK _ ?_));clear hK K));refine hK _ ?_;clear hK K))))
     repeat' (first|refine T.zh fun K hK=>?_|refine T.block ?_|refine T.skip ?_|refine T.exit ?_|refine T.zf rfl ?_|refine T.ze rfl ?_|refine T.cond rfl (fun hc=>?_) (fun hc=>?_)|refine T.ret ?_|simp only [za,z8,reduceIte,Nat.reduceEqDiff]|((repeat ((fail_if_success (refine hK _ ?_));clear hK K));refine hK _ ?_;clear hK K))
     (refine T.reg (by kernel_rfl) fun K' hK'=>?_;simp only [bz];(repeat' (first|(with_reducible refine WL.fin ?_;refine hK' _ ?_;clear hK' K')|((with_reducible refine WL.step fun K2 hK2=>?_);simp only [simprocAttr,implies_true,amz,tys,hf,evC,zR hB hR ht2,z0y hB hR ht2];(repeat' with_reducible (first|(refine hK2 _ ?_;clear hK2 K2)|refine And.intro ?_ ?_|intro hb)))));all_goals ((try simp only [za,z8,reduceIte,Nat.reduceEqDiff]);(try ((repeat ((fail_if_success (refine hK _ ?_));clear hK K));refine hK _ ?_;clear hK K))))
     refine T.zh fun K hK=>?_
     suffices hmid : ∀ s',zk s' ⟨frI l y s.j ++ [(69,.own (i+B)),(70,.int r.length),(71,.int q),(15,.int ii),(16,.ptr 5000006 0),(17,.bool (z6h f e))],(5000006,AO.boxP none 39 [.p (.val (.int .i64 f.g)),.p (.val (.int .i64 f.kind)),.p (.val (.int .i64 f.obj)),.p (.val (.int .i64 f.off)),.p (.val (.int .i64 f.k)),.p (.val (.int .i64 f.n)),.p (.val (.int .i64 f.fn)),.p (.val (.int .i64 f.pc)),.p (.val (.int .i64 f.st))]) :: (ownI B l e s++H acc2),190,5000007⟩→K s' by
      clear hK
      have hK:=hmid
      clear hmid
      cases c15:(f.kind==15) with
      | false =>
       (refine T.reg (by kernel_rfl) fun K' hK'=>?_;simp only [bz];(repeat' (first|(with_reducible refine WL.fin ?_;refine hK' _ ?_;clear hK' K')|((with_reducible refine WL.step fun K2 hK2=>?_);simp only [simprocAttr,implies_true,amz,tys,c15,zR hB hR ht2];(repeat' with_reducible (first|(refine hK2 _ ?_;clear hK2 K2)|refine And.intro ?_ ?_|intro hb)))));all_goals ((try simp only [za,z8,reduceIte,Nat.reduceEqDiff]);(try ((repeat ((fail_if_success (refine hK _ ?_));clear hK K));refine hK _ ?_;clear hK K))))
       refine zk.frm _ _ _ _ (fun t=>?_) (by simp only [wks,reduceIte,Nat.reduceEqDiff,implies_true,and_self,frI,hy6,hy7,hi7,hi8,List.cons_append,List.nil_append,z6h,c15,Bool.false_and]) (by simp only [wks,AV.okB,Nat.reduceLT,decide_true,List.all_cons,List.all_nil,Bool.and_self,frI,hy6,hy7,hi7,hi8,List.cons_append,List.nil_append,z6h,c15,Bool.false_and]) ?_;(focus (first|rfl|(simp only [ownI,List.cons_append];done)));exact z4Y hB hl hs (hH _)
      | true =>
       cases c18:(e.kind==18) with
       | false =>
        (refine T.reg (by kernel_rfl) fun K' hK'=>?_;simp only [bz];(repeat' (first|(with_reducible refine WL.fin ?_;refine hK' _ ?_;clear hK' K')|((with_reducible refine WL.step fun K2 hK2=>?_);simp only [simprocAttr,implies_true,amz,tys,c15,c18,zR hB hR ht2];(repeat' with_reducible (first|(refine hK2 _ ?_;clear hK2 K2)|refine And.intro ?_ ?_|intro hb)))));all_goals ((try simp only [za,z8,reduceIte,Nat.reduceEqDiff]);(try ((repeat ((fail_if_success (refine hK _ ?_));clear hK K));refine hK _ ?_;clear hK K))))
        refine zk.frm _ _ _ _ (fun t=>?_) (by simp only [wks,reduceIte,Nat.reduceEqDiff,implies_true,and_self,frI,hy6,hy7,hi7,hi8,List.cons_append,List.nil_append,z6h,c15,c18,Bool.true_and,Bool.false_and]) (by simp only [wks,AV.okB,Nat.reduceLT,decide_true,List.all_cons,List.all_nil,Bool.and_self,frI,hy6,hy7,hi7,hi8,List.cons_append,List.nil_append,z6h,c15,c18,Bool.true_and,Bool.false_and]) ?_;(focus (first|rfl|(simp only [ownI,List.cons_append];done)));exact z4Y hB hl hs (hH _)
       | true =>
        (refine T.reg (by kernel_rfl) fun K' hK'=>?_;simp only [bz];(repeat' (first|(with_reducible refine WL.fin ?_;refine hK' _ ?_;clear hK' K')|((with_reducible refine WL.step fun K2 hK2=>?_);simp only [simprocAttr,implies_true,amz,tys,c15,c18,zR hB hR ht2];(repeat' with_reducible (first|(refine hK2 _ ?_;clear hK2 K2)|refine And.intro ?_ ?_|intro hb)))));all_goals ((try simp only [za,z8,reduceIte,Nat.reduceEqDiff]);(try ((repeat ((fail_if_success (refine hK _ ?_));clear hK K));refine hK _ ?_;clear hK K))))
        refine zk.frm _ _ _ _ (fun t=>?_) (by simp only [wks,reduceIte,Nat.reduceEqDiff,implies_true,and_self,frI,hy6,hy7,hi7,hi8,List.cons_append,List.nil_append,z6h,c15,c18,Bool.true_and]) (by simp only [wks,AV.okB,Nat.reduceLT,decide_true,List.all_cons,List.all_nil,Bool.and_self,frI,hy6,hy7,hi7,hi8,List.cons_append,List.nil_append,z6h,c15,c18,Bool.true_and]) ?_;(focus (first|rfl|(simp only [ownI,List.cons_append];done)));exact z4Y hB hl hs (hH _)
     intro s' hw
     refine hK s' ?_
     refine T.weak hw ?_
     clear hK hw s' K
     refine T.zh fun K hK=>?_
     suffices hmid : ∀ s',zk s' ⟨frI l y s.j ++ [(69,.own (i+B)),(70,.int r.length),(71,.int q),(15,.int ii),(16,.ptr 5000006 0),(17,.bool (z6h f e)),(18,.bool (z6E f e))],(5000006,AO.boxP none 39 [.p (.val (.int .i64 f.g)),.p (.val (.int .i64 f.kind)),.p (.val (.int .i64 f.obj)),.p (.val (.int .i64 f.off)),.p (.val (.int .i64 f.k)),.p (.val (.int .i64 f.n)),.p (.val (.int .i64 f.fn)),.p (.val (.int .i64 f.pc)),.p (.val (.int .i64 f.st))]) :: (ownI B l e s++H acc2),190,5000007⟩→K s' by
      clear hK
      have hK:=hmid
      clear hmid
      simp only [frI,ownI,List.cons_append,List.nil_append]
      cases c17:(f.kind==17) with
      | false =>
       (refine T.reg (by kernel_rfl) fun K' hK'=>?_;simp only [bz];(repeat' (first|(with_reducible refine WL.fin ?_;refine hK' _ ?_;clear hK' K')|((with_reducible refine WL.step fun K2 hK2=>?_);simp only [simprocAttr,implies_true,amz,tys,c17,zR hB hR ht2];(repeat' with_reducible (first|(refine hK2 _ ?_;clear hK2 K2)|refine And.intro ?_ ?_|intro hb)))));all_goals ((try simp only [za,z8,reduceIte,Nat.reduceEqDiff]);(try ((repeat ((fail_if_success (refine hK _ ?_));clear hK K));refine hK _ ?_;clear hK K))))
       refine zk.frm _ _ _ _ (fun t=>?_) (by simp only [wks,reduceIte,Nat.reduceEqDiff,implies_true,and_self,frI,hy6,hy7,hi7,hi8,List.cons_append,List.nil_append,z6E,c17,Bool.false_and]) (by simp only [wks,AV.okB,Nat.reduceLT,decide_true,List.all_cons,List.all_nil,Bool.and_self,frI,hy6,hy7,hi7,hi8,List.cons_append,List.nil_append,z6E,c17,Bool.false_and]) ?_;(focus (first|rfl|(simp only [ownI,List.cons_append];done)));exact z4Y hB hl hs (hH _)
      | true =>
       cases c16:(e.kind==16) with
       | false =>
        (refine T.reg (by kernel_rfl) fun K' hK'=>?_;simp only [bz];(repeat' (first|(with_reducible refine WL.fin ?_;refine hK' _ ?_;clear hK' K')|((with_reducible refine WL.step fun K2 hK2=>?_);simp only [simprocAttr,implies_true,amz,tys,c17,c16,zR hB hR ht2];(repeat' with_reducible (first|(refine hK2 _ ?_;clear hK2 K2)|refine And.intro ?_ ?_|intro hb)))));all_goals ((try simp only [za,z8,reduceIte,Nat.reduceEqDiff]);(try ((repeat ((fail_if_success (refine hK _ ?_));clear hK K));refine hK _ ?_;clear hK K))))
        refine zk.frm _ _ _ _ (fun t=>?_) (by simp only [wks,reduceIte,Nat.reduceEqDiff,implies_true,and_self,frI,hy6,hy7,hi7,hi8,List.cons_append,List.nil_append,z6E,c17,c16,Bool.true_and,Bool.false_and]) (by simp only [wks,AV.okB,Nat.reduceLT,decide_true,List.all_cons,List.all_nil,Bool.and_self,frI,hy6,hy7,hi7,hi8,List.cons_append,List.nil_append,z6E,c17,c16,Bool.true_and,Bool.false_and]) ?_;(focus (first|rfl|(simp only [ownI,List.cons_append];done)));exact z4Y hB hl hs (hH _)
       | true =>
        (refine T.reg (by kernel_rfl) fun K' hK'=>?_;simp only [bz];(repeat' (first|(with_reducible refine WL.fin ?_;refine hK' _ ?_;clear hK' K')|((with_reducible refine WL.step fun K2 hK2=>?_);simp only [simprocAttr,implies_true,amz,tys,c17,c16,zR hB hR ht2];(repeat' with_reducible (first|(refine hK2 _ ?_;clear hK2 K2)|refine And.intro ?_ ?_|intro hb)))));all_goals ((try simp only [za,z8,reduceIte,Nat.reduceEqDiff]);(try ((repeat ((fail_if_success (refine hK _ ?_));clear hK K));refine hK _ ?_;clear hK K))))
        refine zk.frm _ _ _ _ (fun t=>?_) (by simp only [wks,reduceIte,Nat.reduceEqDiff,implies_true,and_self,frI,hy6,hy7,hi7,hi8,List.cons_append,List.nil_append,z6E,c17,c16,Bool.true_and]) (by simp only [wks,AV.okB,Nat.reduceLT,decide_true,List.all_cons,List.all_nil,Bool.and_self,frI,hy6,hy7,hi7,hi8,List.cons_append,List.nil_append,z6E,c17,c16,Bool.true_and]) ?_;(focus (first|rfl|(simp only [ownI,List.cons_append];done)));exact z4Y hB hl hs (hH _)
     intro s' hw
     refine hK s' ?_
     refine T.weak hw ?_
     clear hK hw s' K
     have hyes:z2U f e=true→(∃ rs,z0v l l.length=acc2++(⟨ii,s.j,e.kind⟩ : Ed) :: rs)∧acc2 ++ [(⟨ii,s.j,e.kind⟩ : Ed)]=acc1++z1c l e s.j (r.take (q+1)):=fun hm=>by
      refine ⟨⟨z1c l e s.j (r.drop (q+1))++(z2N l e s.j++rest),?_⟩,?_⟩
      ·rw [hrest,← hr,z8R l e s.j r q,drop_at hii,zas l e s.j ii _ f hf,hm,hacc2]
       simp
      ·rw [z6J l e s.j hii hf,hm,hacc2]
       simp
     have hno:z2U f e=false→acc2=acc1++z1c l e s.j (r.take (q+1)):=fun hm=>by
      rw [z6J l e s.j hii hf,hm,hacc2]
      simp
     simp only [frI,ownI,List.cons_append,List.nil_append]
     cases hsn:z6h f e with
     | true =>
      obtain ⟨hpre,hnext⟩:=hyes (by simp [z2U,hsn])
      obtain ⟨lr,sp,fr0,hlk0,hyc0⟩:=hyld acc2 ⟨ii,s.j,e.kind⟩ hpre
      simp only [edC,List.map_cons,List.map_nil] at hyc0
      repeat' (first|refine T.zh fun K hK=>?_|refine T.block ?_|refine T.skip ?_|refine T.exit ?_|refine T.zf rfl ?_|refine T.ze rfl ?_|refine T.cond rfl (fun hc=>?_) (fun hc=>?_)|refine T.ret ?_|simp only [za,z8,reduceIte,Nat.reduceEqDiff]|((repeat ((fail_if_success (refine hK _ ?_));clear hK K));refine hK _ ?_;clear hK K))
      refine T.regI (by kernel_rfl) fun K' hK'=>?_;simp only [List.map_cons,List.map_nil]
      iterate 18 ((with_reducible refine WLI.z0z fun K2 hK2=>?_);simp only [simprocAttr,implies_true,amz,tys,zR hB hR ht2];(repeat' (first|with_reducible (first|(refine hK2 _ ?_;clear hK2 K2)|refine And.intro ?_ ?_|intro hb))))
      (with_reducible refine WLI.z9a fun K2 hK2=>?_);simp only [WSY,WY,simprocAttr,implies_true,amz,tys,hiB,zR hB hR ht2];(refine z6B.of 2000000 ((5000006,AO.boxP none 39 [.p (.val (.int .i64 f.g)),.p (.val (.int .i64 f.kind)),.p (.val (.int .i64 f.obj)),.p (.val (.int .i64 f.off)),.p (.val (.int .i64 f.k)),.p (.val (.int .i64 f.n)),.p (.val (.int .i64 f.fn)),.p (.val (.int .i64 f.pc)),.p (.val (.int .i64 f.st))]) :: ownI B l e s) (H (acc2)) (H (acc2 ++ [⟨ii,s.j,e.kind⟩])) _ _ _ rfl (z7c (by decide) (z19 hB _ _ _)) ?_ (hH _) hyc0 hlk0 (z9o hh _ _) (by decide) (by simp [AV.okB,AV.qa]) ?_);(focus (simp only [z1J hB,List.map_cons,AO.z1S,AV.ql,List.map_nil,evC];done));refine hK2 _ ?_;clear hK2 K2;(refine WLI.weak (zk.hpe _ ((5000006,AO.boxP none 39 [.p (.val (.int .i64 f.g)),.p (.val (.int .i64 f.kind)),.p (.val (.int .i64 f.obj)),.p (.val (.int .i64 f.off)),.p (.val (.int .i64 f.k)),.p (.val (.int .i64 f.n)),.p (.val (.int .i64 f.fn)),.p (.val (.int .i64 f.pc)),.p (.val (.int .i64 f.st))]) :: ownI B l e s++H (acc2 ++ [⟨ii,s.j,e.kind⟩])) (z4d (z7c (by decide) (z19 hB _ _ _)) (hH _))) ?_);simp only [List.map_cons,List.map_nil,AV.zU,AV.zS,AV.zM,AV.zW,AV.ql,AV.zY,AV.zJ,AV.zL,AV.qh,AV.zZ,AV.zX,Nat.reduceLeDiff,true_or,reduceIte,List.mem_singleton,or_true,ownI,List.cons_append,zH,tys,hiB,zR hB hR ht2]
      iterate 2 ((with_reducible refine WLI.z0z fun K2 hK2=>?_);simp only [simprocAttr,implies_true,amz,tys];(repeat' (first|with_reducible (first|(refine hK2 _ ?_;clear hK2 K2)|refine And.intro ?_ ?_|intro hb))))
      (with_reducible refine WLI.fin ?_);refine hK' _ ?_;clear hK' K';(try simp only [za,z8,reduceIte,Nat.reduceEqDiff]);(try ((repeat ((fail_if_success (refine hK _ ?_));clear hK K));refine hK _ ?_;clear hK K))
      repeat' (first|refine T.zh fun K hK=>?_|refine T.block ?_|(refine T.reg (by kernel_rfl) fun K' hK'=>?_;simp only [bz];(repeat' (first|(with_reducible refine WL.fin ?_;refine hK' _ ?_;clear hK' K')|((with_reducible refine WL.step fun K2 hK2=>?_);simp only [simprocAttr,implies_true,amz,tys];(repeat' with_reducible (first|(refine hK2 _ ?_;clear hK2 K2)|refine And.intro ?_ ?_|intro hb))))))|refine T.skip ?_|refine T.exit ?_|refine T.zf rfl ?_|refine T.ze rfl ?_|refine T.cond rfl (fun hc=>?_) (fun hc=>?_)|refine T.ret ?_|simp only [za,z8,reduceIte,Nat.reduceEqDiff]|((repeat ((fail_if_success (refine hK _ ?_));clear hK K));refine hK _ ?_;clear hK K))
      rw [hnext]
      refine hKL _ (q+1) ?_ (by omega) (by omega)
      refine zk.subs _ _ _ _ (fun t o ho=>?_) (by simp only [wks,reduceIte,Nat.reduceEqDiff,implies_true,and_self,frI,hy6,hi7,List.cons_append,List.nil_append,zm (show q<1152921504606846976 by omega)]) (by simp only [wks,AV.okB,Nat.reduceLT,decide_true,List.all_cons,List.all_nil,Bool.and_self,frI,hy6,hi7,List.cons_append,List.nil_append,zm (show q<1152921504606846976 by omega)]) (z0i hB hl hs (hH _));exact (zb (Nat.ne_of_lt (z0i hB hl hs (hH _) t o ho).1)).trans ho
     | false =>
      cases hfz:z6E f e with
      | true =>
       obtain ⟨hpre,hnext⟩:=hyes (by simp [z2U,hfz])
       obtain ⟨lr,sp,fr0,hlk0,hyc0⟩:=hyld acc2 ⟨ii,s.j,e.kind⟩ hpre
       simp only [edC,List.map_cons,List.map_nil] at hyc0
       repeat' (first|refine T.zh fun K hK=>?_|refine T.block ?_|refine T.skip ?_|refine T.exit ?_|refine T.zf rfl ?_|refine T.ze rfl ?_|refine T.cond rfl (fun hc=>?_) (fun hc=>?_)|refine T.ret ?_|simp only [za,z8,reduceIte,Nat.reduceEqDiff]|((repeat ((fail_if_success (refine hK _ ?_));clear hK K));refine hK _ ?_;clear hK K))
       refine T.regI (by kernel_rfl) fun K' hK'=>?_;simp only [List.map_cons,List.map_nil]
       iterate 18 ((with_reducible refine WLI.z0z fun K2 hK2=>?_);simp only [simprocAttr,implies_true,amz,tys,zR hB hR ht2];(repeat' (first|with_reducible (first|(refine hK2 _ ?_;clear hK2 K2)|refine And.intro ?_ ?_|intro hb))))
       (with_reducible refine WLI.z9a fun K2 hK2=>?_);simp only [WSY,WY,simprocAttr,implies_true,amz,tys,hiB,zR hB hR ht2];(refine z6B.of 2000000 ((5000006,AO.boxP none 39 [.p (.val (.int .i64 f.g)),.p (.val (.int .i64 f.kind)),.p (.val (.int .i64 f.obj)),.p (.val (.int .i64 f.off)),.p (.val (.int .i64 f.k)),.p (.val (.int .i64 f.n)),.p (.val (.int .i64 f.fn)),.p (.val (.int .i64 f.pc)),.p (.val (.int .i64 f.st))]) :: ownI B l e s) (H (acc2)) (H (acc2 ++ [⟨ii,s.j,e.kind⟩])) _ _ _ rfl (z7c (by decide) (z19 hB _ _ _)) ?_ (hH _) hyc0 hlk0 (z9o hh _ _) (by decide) (by simp [AV.okB,AV.qa]) ?_);(focus (simp only [z1J hB,List.map_cons,AO.z1S,AV.ql,List.map_nil,evC];done));refine hK2 _ ?_;clear hK2 K2;(refine WLI.weak (zk.hpe _ ((5000006,AO.boxP none 39 [.p (.val (.int .i64 f.g)),.p (.val (.int .i64 f.kind)),.p (.val (.int .i64 f.obj)),.p (.val (.int .i64 f.off)),.p (.val (.int .i64 f.k)),.p (.val (.int .i64 f.n)),.p (.val (.int .i64 f.fn)),.p (.val (.int .i64 f.pc)),.p (.val (.int .i64 f.st))]) :: ownI B l e s++H (acc2 ++ [⟨ii,s.j,e.kind⟩])) (z4d (z7c (by decide) (z19 hB _ _ _)) (hH _))) ?_);simp only [List.map_cons,List.map_nil,AV.zU,AV.zS,AV.zM,AV.zW,AV.ql,AV.zY,AV.zJ,AV.zL,AV.qh,AV.zZ,AV.zX,Nat.reduceLeDiff,true_or,reduceIte,List.mem_singleton,or_true,ownI,List.cons_append,zH,tys,hiB,zR hB hR ht2]
       iterate 2 ((with_reducible refine WLI.z0z fun K2 hK2=>?_);simp only [simprocAttr,implies_true,amz,tys];(repeat' (first|with_reducible (first|(refine hK2 _ ?_;clear hK2 K2)|refine And.intro ?_ ?_|intro hb))))
       (with_reducible refine WLI.fin ?_);refine hK' _ ?_;clear hK' K';(try simp only [za,z8,reduceIte,Nat.reduceEqDiff]);(try ((repeat ((fail_if_success (refine hK _ ?_));clear hK K));refine hK _ ?_;clear hK K))
       repeat' (first|refine T.zh fun K hK=>?_|refine T.block ?_|(refine T.reg (by kernel_rfl) fun K' hK'=>?_;simp only [bz];(repeat' (first|(with_reducible refine WL.fin ?_;refine hK' _ ?_;clear hK' K')|((with_reducible refine WL.step fun K2 hK2=>?_);simp only [simprocAttr,implies_true,amz,tys];(repeat' with_reducible (first|(refine hK2 _ ?_;clear hK2 K2)|refine And.intro ?_ ?_|intro hb))))))|refine T.skip ?_|refine T.exit ?_|refine T.zf rfl ?_|refine T.ze rfl ?_|refine T.cond rfl (fun hc=>?_) (fun hc=>?_)|refine T.ret ?_|simp only [za,z8,reduceIte,Nat.reduceEqDiff]|((repeat ((fail_if_success (refine hK _ ?_));clear hK K));refine hK _ ?_;clear hK K))
       rw [hnext]
       refine hKL _ (q+1) ?_ (by omega) (by omega)
       refine zk.subs _ _ _ _ (fun t o ho=>?_) (by simp only [wks,reduceIte,Nat.reduceEqDiff,implies_true,and_self,frI,hy6,hi7,List.cons_append,List.nil_append,zm (show q<1152921504606846976 by omega)]) (by simp only [wks,AV.okB,Nat.reduceLT,decide_true,List.all_cons,List.all_nil,Bool.and_self,frI,hy6,hi7,List.cons_append,List.nil_append,zm (show q<1152921504606846976 by omega)]) (z0i hB hl hs (hH _));exact (zb (Nat.ne_of_lt (z0i hB hl hs (hH _) t o ho).1)).trans ho
      | false =>
       have hAf:=z8W f.kind e.kind
       cases haf:aftB f.kind e.kind with
       | true =>
        rw [haf] at hAf
        obtain ⟨hpre,hnext⟩:=hyes (by simp [z2U,haf])
        obtain ⟨lr,sp,fr0,hlk0,hyc0⟩:=hyld acc2 ⟨ii,s.j,e.kind⟩ hpre
        simp only [edC,List.map_cons,List.map_nil] at hyc0
        repeat' (first|refine T.zh fun K hK=>?_|refine T.block ?_|refine T.skip ?_|refine T.exit ?_|refine T.zf rfl ?_|refine T.ze rfl ?_|refine T.cond rfl (fun hc=>?_) (fun hc=>?_)|refine T.ret ?_|simp only [za,z8,reduceIte,Nat.reduceEqDiff]|((repeat ((fail_if_success (refine hK _ ?_));clear hK K));refine hK _ ?_;clear hK K))
        refine T.regI (by kernel_rfl) fun K' hK'=>?_;simp only [List.map_cons,List.map_nil]
        iterate 9 ((with_reducible refine WLI.z0z fun K2 hK2=>?_);simp only [simprocAttr,implies_true,amz,tys,zR hB hR ht2];(repeat' (first|with_reducible (first|(refine hK2 _ ?_;clear hK2 K2)|refine And.intro ?_ ?_|intro hb))))
        (with_reducible refine WLI.z0z fun K2 hK2=>?_);simp only [simprocAttr,implies_true,amz,tys];((first|(with_reducible apply zg)|(with_reducible apply zl));case h=>exact CallV.plain (Ent.of Try.func53 (by kernel_rfl) rfl) (hAf) (by simp [AV.okB]));refine hK2 _ ?_;clear hK2 K2
        iterate 8 ((with_reducible refine WLI.z0z fun K2 hK2=>?_);simp only [simprocAttr,implies_true,amz,tys,zR hB hR ht2];(repeat' (first|with_reducible (first|(refine hK2 _ ?_;clear hK2 K2)|refine And.intro ?_ ?_|intro hb))))
        (with_reducible refine WLI.z9a fun K2 hK2=>?_);simp only [WSY,WY,simprocAttr,implies_true,amz,tys,hiB,zR hB hR ht2];(refine z6B.of 2000000 ((5000006,AO.boxP none 39 [.p (.val (.int .i64 f.g)),.p (.val (.int .i64 f.kind)),.p (.val (.int .i64 f.obj)),.p (.val (.int .i64 f.off)),.p (.val (.int .i64 f.k)),.p (.val (.int .i64 f.n)),.p (.val (.int .i64 f.fn)),.p (.val (.int .i64 f.pc)),.p (.val (.int .i64 f.st))]) :: ownI B l e s) (H (acc2)) (H (acc2 ++ [⟨ii,s.j,e.kind⟩])) _ _ _ rfl (z7c (by decide) (z19 hB _ _ _)) ?_ (hH _) hyc0 hlk0 (z9o hh _ _) (by decide) (by simp [AV.okB,AV.qa]) ?_);(focus (simp only [z1J hB,List.map_cons,AO.z1S,AV.ql,List.map_nil,evC];done));refine hK2 _ ?_;clear hK2 K2;(refine WLI.weak (zk.hpe _ ((5000006,AO.boxP none 39 [.p (.val (.int .i64 f.g)),.p (.val (.int .i64 f.kind)),.p (.val (.int .i64 f.obj)),.p (.val (.int .i64 f.off)),.p (.val (.int .i64 f.k)),.p (.val (.int .i64 f.n)),.p (.val (.int .i64 f.fn)),.p (.val (.int .i64 f.pc)),.p (.val (.int .i64 f.st))]) :: ownI B l e s++H (acc2 ++ [⟨ii,s.j,e.kind⟩])) (z4d (z7c (by decide) (z19 hB _ _ _)) (hH _))) ?_);simp only [List.map_cons,List.map_nil,AV.zU,AV.zS,AV.zM,AV.zW,AV.ql,AV.zY,AV.zJ,AV.zL,AV.qh,AV.zZ,AV.zX,Nat.reduceLeDiff,true_or,reduceIte,List.mem_singleton,or_true,ownI,List.cons_append,zH,tys,hiB,zR hB hR ht2]
        iterate 2 ((with_reducible refine WLI.z0z fun K2 hK2=>?_);simp only [simprocAttr,implies_true,amz,tys];(repeat' (first|with_reducible (first|(refine hK2 _ ?_;clear hK2 K2)|refine And.intro ?_ ?_|intro hb))))
        (with_reducible refine WLI.fin ?_);refine hK' _ ?_;clear hK' K';(try simp only [za,z8,reduceIte,Nat.reduceEqDiff]);(try ((repeat ((fail_if_success (refine hK _ ?_));clear hK K));refine hK _ ?_;clear hK K))
        repeat' (first|refine T.zh fun K hK=>?_|refine T.block ?_|(refine T.reg (by kernel_rfl) fun K' hK'=>?_;simp only [bz];(repeat' (first|(with_reducible refine WL.fin ?_;refine hK' _ ?_;clear hK' K')|((with_reducible refine WL.step fun K2 hK2=>?_);simp only [simprocAttr,implies_true,amz,tys];(repeat' with_reducible (first|(refine hK2 _ ?_;clear hK2 K2)|refine And.intro ?_ ?_|intro hb))))))|refine T.skip ?_|refine T.exit ?_|refine T.zf rfl ?_|refine T.ze rfl ?_|refine T.cond rfl (fun hc=>?_) (fun hc=>?_)|refine T.ret ?_|simp only [za,z8,reduceIte,Nat.reduceEqDiff]|((repeat ((fail_if_success (refine hK _ ?_));clear hK K));refine hK _ ?_;clear hK K))
        rw [hnext]
        refine hKL _ (q+1) ?_ (by omega) (by omega)
        refine zk.subs _ _ _ _ (fun t o ho=>?_) (by simp only [wks,reduceIte,Nat.reduceEqDiff,implies_true,and_self,frI,hy6,hi7,List.cons_append,List.nil_append,zm (show q<1152921504606846976 by omega)]) (by simp only [wks,AV.okB,Nat.reduceLT,decide_true,List.all_cons,List.all_nil,Bool.and_self,frI,hy6,hi7,List.cons_append,List.nil_append,zm (show q<1152921504606846976 by omega)]) (z0i hB hl hs (hH _));exact (zb (Nat.ne_of_lt (z0i hB hl hs (hH _) t o ho).1)).trans ho
       | false =>
        rw [haf] at hAf
        have hnext:=hno (by simp [z2U,hsn,hfz,haf])
        repeat' (first|refine T.zh fun K hK=>?_|refine T.block ?_|refine T.skip ?_|refine T.exit ?_|refine T.zf rfl ?_|refine T.ze rfl ?_|refine T.cond rfl (fun hc=>?_) (fun hc=>?_)|refine T.ret ?_|simp only [za,z8,reduceIte,Nat.reduceEqDiff]|((repeat ((fail_if_success (refine hK _ ?_));clear hK K));refine hK _ ?_;clear hK K))
        refine T.regI (by kernel_rfl) fun K' hK'=>?_;simp only [List.map_cons,List.map_nil]
        iterate 9 ((with_reducible refine WLI.z0z fun K2 hK2=>?_);simp only [simprocAttr,implies_true,amz,tys,zR hB hR ht2];(repeat' (first|with_reducible (first|(refine hK2 _ ?_;clear hK2 K2)|refine And.intro ?_ ?_|intro hb))))
        (with_reducible refine WLI.z0z fun K2 hK2=>?_);simp only [simprocAttr,implies_true,amz,tys];((first|(with_reducible apply zg)|(with_reducible apply zl));case h=>exact CallV.plain (Ent.of Try.func53 (by kernel_rfl) rfl) (hAf) (by simp [AV.okB]));refine hK2 _ ?_;clear hK2 K2
        iterate 11 ((with_reducible refine WLI.z0z fun K2 hK2=>?_);simp only [simprocAttr,implies_true,amz,tys,zR hB hR ht2];(repeat' (first|with_reducible (first|(refine hK2 _ ?_;clear hK2 K2)|refine And.intro ?_ ?_|intro hb))))
        (with_reducible refine WLI.fin ?_);refine hK' _ ?_;clear hK' K';(try simp only [za,z8,reduceIte,Nat.reduceEqDiff]);(try ((repeat ((fail_if_success (refine hK _ ?_));clear hK K));refine hK _ ?_;clear hK K))
        repeat' (first|refine T.zh fun K hK=>?_|refine T.block ?_|(refine T.reg (by kernel_rfl) fun K' hK'=>?_;simp only [bz];(repeat' (first|(with_reducible refine WL.fin ?_;refine hK' _ ?_;clear hK' K')|((with_reducible refine WL.step fun K2 hK2=>?_);simp only [simprocAttr,implies_true,amz,tys];(repeat' with_reducible (first|(refine hK2 _ ?_;clear hK2 K2)|refine And.intro ?_ ?_|intro hb))))))|refine T.skip ?_|refine T.exit ?_|refine T.zf rfl ?_|refine T.ze rfl ?_|refine T.cond rfl (fun hc=>?_) (fun hc=>?_)|refine T.ret ?_|simp only [za,z8,reduceIte,Nat.reduceEqDiff]|((repeat ((fail_if_success (refine hK _ ?_));clear hK K));refine hK _ ?_;clear hK K))
        rw [hnext]
        refine hKL _ (q+1) ?_ (by omega) (by omega)
        refine zk.subs _ _ _ _ (fun t o ho=>?_) (by simp only [wks,reduceIte,Nat.reduceEqDiff,implies_true,and_self,frI,hy6,hi7,List.cons_append,List.nil_append,zm (show q<1152921504606846976 by omega)]) (by simp only [wks,AV.okB,Nat.reduceLT,decide_true,List.all_cons,List.all_nil,Bool.and_self,frI,hy6,hi7,List.cons_append,List.nil_append,zm (show q<1152921504606846976 by omega)]) (z0i hB hl hs (hH _));exact (zb (Nat.ne_of_lt (z0i hB hl hs (hH _) t o ho).1)).trans ho
    ·have hdq:decide ((q:Int)<(r.length:Int))=false:=by simpa using hqr
     repeat' (first|refine T.zh fun K hK=>?_|refine T.block ?_|(refine T.reg (by kernel_rfl) fun K' hK'=>?_;simp only [bz];(repeat' (first|(with_reducible refine WL.fin ?_;refine hK' _ ?_;clear hK' K')|((with_reducible refine WL.step fun K2 hK2=>?_);simp only [simprocAttr,implies_true,amz,tys,hdq];(repeat' with_reducible (first|(refine hK2 _ ?_;clear hK2 K2)|refine And.intro ?_ ?_|intro hb))))))|refine T.skip ?_|refine T.exit ?_|refine T.zf rfl ?_|refine T.ze rfl ?_|refine T.cond rfl (fun hc=>?_) (fun hc=>?_)|refine T.ret ?_|simp only [za,z8,reduceIte,Nat.reduceEqDiff]|((repeat ((fail_if_success (refine hK _ ?_));clear hK K));refine hK _ ?_;clear hK K))
     rw [hacc2,List.take_of_length_le (by omega)]
     refine zk.frm _ _ _ _ (fun t=>?_) (by simp only [wks,reduceIte,Nat.reduceEqDiff,implies_true,and_self,frI,hy6,]) (by simp only [wks,AV.okB,Nat.reduceLT,decide_true,List.all_cons,List.all_nil,Bool.and_self,frI,hy6,]) ?_;(focus (first|rfl|(simp only [ownI,List.cons_append];done)));exact z0i hB hl hs (hH _)
  intro s' hw
  refine hK s' ?_
  refine T.weak hw ?_
  clear hK hw s' K ht
  obtain ⟨acc3,hacc3⟩ : ∃ a,a=acc1++z1c l e s.j (atL l e.obj e.off s.j):=⟨_,rfl⟩
  rw [← hacc3]
  rw [← List.append_assoc,← hacc3] at hrest
  have ht:=hH acc3
  refine T.zh fun K hK=>?_
  suffices hmid : ∀ s',zk s' ⟨frI l y s.j,ownI B l e s++H (acc3++z2N l e s.j),190,5000006⟩→K s' by
   clear hK
   have hK:=hmid
   clear hmid
   simp only [frI,ownI,List.cons_append]
   cases hW:z03 l (wrAt e.obj e.off) s.j with
   | none =>
    have hrW:z2N l e s.j = []:=by rw [z2N,hW]
    rw [hrW,List.append_nil] at hK
    repeat' (first|refine T.zh fun K hK=>?_|refine T.block ?_|(refine T.reg (by kernel_rfl) fun K' hK'=>?_;simp only [bz];(repeat' (first|(with_reducible refine WL.fin ?_;refine hK' _ ?_;clear hK' K')|((with_reducible refine WL.step fun K2 hK2=>?_);simp only [simprocAttr,implies_true,amz,tys,hW,z1l,z1n iO iF,z3X nI _ iO iF,nI,zR hB hR ht,z0y hB hR ht,Option.isSome_none];(repeat' with_reducible (first|(refine hK2 _ ?_;clear hK2 K2)|refine And.intro ?_ ?_|intro hb))))))|refine T.skip ?_|refine T.exit ?_|refine T.zf rfl ?_|refine T.ze rfl ?_|refine T.cond rfl (fun hc=>?_) (fun hc=>?_)|refine T.ret ?_|simp only [za,z8,reduceIte,Nat.reduceEqDiff]|((repeat ((fail_if_success (refine hK _ ?_));clear hK K));refine hK _ ?_;clear hK K))
    refine zk.frm _ _ _ _ (fun t=>?_) (by simp only [wks,reduceIte,Nat.reduceEqDiff,implies_true,and_self,frI,hy6,]) (by simp only [wks,AV.okB,Nat.reduceLT,decide_true,List.all_cons,List.all_nil,Bool.and_self,frI,hy6,]) ?_;(focus (first|rfl|(simp only [ownI,List.cons_append];done)));exact z0i hB hl hs (hH _)
   | some w =>
    cases k3:(e.kind==3) with
    | true =>
     have hrW:z2N l e s.j = [⟨w,s.j,e.kind⟩]:=by rw [z2N,hW];simp [rdK,k3]
     rw [hrW] at hK hrest
     obtain ⟨lr,sp,fr0,hlk0,hyc0⟩:=hyld acc3 ⟨w,s.j,e.kind⟩ ⟨_,hrest⟩
     simp only [edC,List.map_cons,List.map_nil] at hyc0
     repeat' (first|refine T.zh fun K hK=>?_|refine T.block ?_|refine T.skip ?_|refine T.exit ?_|refine T.zf rfl ?_|refine T.ze rfl ?_|refine T.cond rfl (fun hc=>?_) (fun hc=>?_)|refine T.ret ?_|simp only [za,z8,reduceIte,Nat.reduceEqDiff]|((repeat ((fail_if_success (refine hK _ ?_));clear hK K));refine hK _ ?_;clear hK K))
     (refine T.reg (by kernel_rfl) fun K' hK'=>?_;simp only [bz];(repeat' (first|(with_reducible refine WL.fin ?_;refine hK' _ ?_;clear hK' K')|((with_reducible refine WL.step fun K2 hK2=>?_);simp only [simprocAttr,implies_true,amz,tys,hW,k3,z1l,z1n iO iF,z3X nI _ iO iF,nI,zR hB hR ht,z0y hB hR ht,Option.isSome_some];(repeat' with_reducible (first|(refine hK2 _ ?_;clear hK2 K2)|refine And.intro ?_ ?_|intro hb)))));all_goals ((try simp only [za,z8,reduceIte,Nat.reduceEqDiff]);(try ((repeat ((fail_if_success (refine hK _ ?_));clear hK K));refine hK _ ?_;clear hK K))))
     repeat' (first|refine T.zh fun K hK=>?_|refine T.block ?_|refine T.skip ?_|refine T.exit ?_|refine T.zf rfl ?_|refine T.ze rfl ?_|refine T.cond rfl (fun hc=>?_) (fun hc=>?_)|refine T.ret ?_|simp only [za,z8,reduceIte,Nat.reduceEqDiff]|((repeat ((fail_if_success (refine hK _ ?_));clear hK K));refine hK _ ?_;clear hK K))
     (refine T.reg (by kernel_rfl) fun K' hK'=>?_;simp only [bz];(repeat' (first|(with_reducible refine WL.fin ?_;refine hK' _ ?_;clear hK' K')|((with_reducible refine WL.step fun K2 hK2=>?_);simp only [simprocAttr,implies_true,amz,tys,hW,k3,zR hB hR ht];(repeat' with_reducible (first|(refine hK2 _ ?_;clear hK2 K2)|refine And.intro ?_ ?_|intro hb)))));all_goals ((try simp only [za,z8,reduceIte,Nat.reduceEqDiff]);(try ((repeat ((fail_if_success (refine hK _ ?_));clear hK K));refine hK _ ?_;clear hK K))))
     repeat' (first|refine T.zh fun K hK=>?_|refine T.block ?_|refine T.skip ?_|refine T.exit ?_|refine T.zf rfl ?_|refine T.ze rfl ?_|refine T.cond rfl (fun hc=>?_) (fun hc=>?_)|refine T.ret ?_|simp only [za,z8,reduceIte,Nat.reduceEqDiff]|((repeat ((fail_if_success (refine hK _ ?_));clear hK K));refine hK _ ?_;clear hK K))
     refine T.regI (by kernel_rfl) fun K' hK'=>?_;simp only [List.map_cons,List.map_nil]
     iterate 6 ((with_reducible refine WLI.z0z fun K2 hK2=>?_);simp only [simprocAttr,implies_true,amz,tys,zR hB hR ht];(repeat' (first|with_reducible (first|(refine hK2 _ ?_;clear hK2 K2)|refine And.intro ?_ ?_|intro hb))))
     (with_reducible refine WLI.z9a fun K2 hK2=>?_);simp only [WSY,WY,simprocAttr,implies_true,amz,tys];(refine z6B.of 2000000 (ownI B l e s) (H (acc3)) (H (acc3 ++ [⟨w,s.j,e.kind⟩])) _ _ _ rfl (z19 hB _ _ _) ?_ (hH _) hyc0 hlk0 (z9o hh _ _) (by decide) (by simp [AV.okB,AV.qa]) ?_);(focus (simp only [z1J hB,List.map_cons,AO.z1S,AV.ql,List.map_nil,evC];done));refine hK2 _ ?_;clear hK2 K2;(refine WLI.weak (zk.hpe _ (ownI B l e s++H (acc3 ++ [⟨w,s.j,e.kind⟩])) (z4d (z19 hB _ _ _) (hH _))) ?_);simp only [List.map_cons,List.map_nil,AV.zU,AV.zS,AV.zM,AV.zW,AV.ql,AV.zY,AV.zJ,AV.zL,AV.qh,AV.zZ,AV.zX,Nat.reduceLeDiff,true_or,reduceIte,List.mem_singleton,or_true,ownI,List.cons_append,zH,tys]
     (with_reducible refine WLI.z0z fun K2 hK2=>?_);simp only [simprocAttr,implies_true,amz,tys];(repeat' (first|with_reducible (first|(refine hK2 _ ?_;clear hK2 K2)|refine And.intro ?_ ?_|intro hb)))
     (with_reducible refine WLI.fin ?_);refine hK' _ ?_;clear hK' K';(try simp only [za,z8,reduceIte,Nat.reduceEqDiff]);(try ((repeat ((fail_if_success (refine hK _ ?_));clear hK K));refine hK _ ?_;clear hK K))
     repeat' (first|refine T.zh fun K hK=>?_|refine T.block ?_|(refine T.reg (by kernel_rfl) fun K' hK'=>?_;simp only [bz];(repeat' (first|(with_reducible refine WL.fin ?_;refine hK' _ ?_;clear hK' K')|((with_reducible refine WL.step fun K2 hK2=>?_);simp only [simprocAttr,implies_true,amz,tys];(repeat' with_reducible (first|(refine hK2 _ ?_;clear hK2 K2)|refine And.intro ?_ ?_|intro hb))))))|refine T.skip ?_|refine T.exit ?_|refine T.zf rfl ?_|refine T.ze rfl ?_|refine T.cond rfl (fun hc=>?_) (fun hc=>?_)|refine T.ret ?_|simp only [za,z8,reduceIte,Nat.reduceEqDiff]|((repeat ((fail_if_success (refine hK _ ?_));clear hK K));refine hK _ ?_;clear hK K))
     refine zk.frm _ _ _ _ (fun t=>?_) (by simp only [wks,reduceIte,Nat.reduceEqDiff,implies_true,and_self,frI,hy6,]) (by simp only [wks,AV.okB,Nat.reduceLT,decide_true,List.all_cons,List.all_nil,Bool.and_self,frI,hy6,]) ?_;(focus (first|rfl|(simp only [ownI,List.cons_append];done)));exact z0i hB hl hs (hH _)
    | false =>
     cases k5:(e.kind==5) with
     | true =>
      have hrW:z2N l e s.j = [⟨w,s.j,e.kind⟩]:=by rw [z2N,hW];simp [rdK,k3,k5]
      rw [hrW] at hK hrest
      obtain ⟨lr,sp,fr0,hlk0,hyc0⟩:=hyld acc3 ⟨w,s.j,e.kind⟩ ⟨_,hrest⟩
      simp only [edC,List.map_cons,List.map_nil] at hyc0
      repeat' (first|refine T.zh fun K hK=>?_|refine T.block ?_|refine T.skip ?_|refine T.exit ?_|refine T.zf rfl ?_|refine T.ze rfl ?_|refine T.cond rfl (fun hc=>?_) (fun hc=>?_)|refine T.ret ?_|simp only [za,z8,reduceIte,Nat.reduceEqDiff]|((repeat ((fail_if_success (refine hK _ ?_));clear hK K));refine hK _ ?_;clear hK K))
      (refine T.reg (by kernel_rfl) fun K' hK'=>?_;simp only [bz];(repeat' (first|(with_reducible refine WL.fin ?_;refine hK' _ ?_;clear hK' K')|((with_reducible refine WL.step fun K2 hK2=>?_);simp only [simprocAttr,implies_true,amz,tys,hW,k3,k5,z1l,z1n iO iF,z3X nI _ iO iF,nI,zR hB hR ht,z0y hB hR ht,Option.isSome_some];(repeat' with_reducible (first|(refine hK2 _ ?_;clear hK2 K2)|refine And.intro ?_ ?_|intro hb)))));all_goals ((try simp only [za,z8,reduceIte,Nat.reduceEqDiff]);(try ((repeat ((fail_if_success (refine hK _ ?_));clear hK K));refine hK _ ?_;clear hK K))))
      repeat' (first|refine T.zh fun K hK=>?_|refine T.block ?_|refine T.skip ?_|refine T.exit ?_|refine T.zf rfl ?_|refine T.ze rfl ?_|refine T.cond rfl (fun hc=>?_) (fun hc=>?_)|refine T.ret ?_|simp only [za,z8,reduceIte,Nat.reduceEqDiff]|((repeat ((fail_if_success (refine hK _ ?_));clear hK K));refine hK _ ?_;clear hK K))
      (refine T.reg (by kernel_rfl) fun K' hK'=>?_;simp only [bz];(repeat' (first|(with_reducible refine WL.fin ?_;refine hK' _ ?_;clear hK' K')|((with_reducible refine WL.step fun K2 hK2=>?_);simp only [simprocAttr,implies_true,amz,tys,hW,k3,k5,zR hB hR ht];(repeat' with_reducible (first|(refine hK2 _ ?_;clear hK2 K2)|refine And.intro ?_ ?_|intro hb)))));all_goals ((try simp only [za,z8,reduceIte,Nat.reduceEqDiff]);(try ((repeat ((fail_if_success (refine hK _ ?_));clear hK K));refine hK _ ?_;clear hK K))))
      repeat' (first|refine T.zh fun K hK=>?_|refine T.block ?_|refine T.skip ?_|refine T.exit ?_|refine T.zf rfl ?_|refine T.ze rfl ?_|refine T.cond rfl (fun hc=>?_) (fun hc=>?_)|refine T.ret ?_|simp only [za,z8,reduceIte,Nat.reduceEqDiff]|((repeat ((fail_if_success (refine hK _ ?_));clear hK K));refine hK _ ?_;clear hK K))
      refine T.regI (by kernel_rfl) fun K' hK'=>?_;simp only [List.map_cons,List.map_nil]
      iterate 6 ((with_reducible refine WLI.z0z fun K2 hK2=>?_);simp only [simprocAttr,implies_true,amz,tys,zR hB hR ht];(repeat' (first|with_reducible (first|(refine hK2 _ ?_;clear hK2 K2)|refine And.intro ?_ ?_|intro hb))))
      (with_reducible refine WLI.z9a fun K2 hK2=>?_);simp only [WSY,WY,simprocAttr,implies_true,amz,tys];(refine z6B.of 2000000 (ownI B l e s) (H (acc3)) (H (acc3 ++ [⟨w,s.j,e.kind⟩])) _ _ _ rfl (z19 hB _ _ _) ?_ (hH _) hyc0 hlk0 (z9o hh _ _) (by decide) (by simp [AV.okB,AV.qa]) ?_);(focus (simp only [z1J hB,List.map_cons,AO.z1S,AV.ql,List.map_nil,evC];done));refine hK2 _ ?_;clear hK2 K2;(refine WLI.weak (zk.hpe _ (ownI B l e s++H (acc3 ++ [⟨w,s.j,e.kind⟩])) (z4d (z19 hB _ _ _) (hH _))) ?_);simp only [List.map_cons,List.map_nil,AV.zU,AV.zS,AV.zM,AV.zW,AV.ql,AV.zY,AV.zJ,AV.zL,AV.qh,AV.zZ,AV.zX,Nat.reduceLeDiff,true_or,reduceIte,List.mem_singleton,or_true,ownI,List.cons_append,zH,tys]
      (with_reducible refine WLI.z0z fun K2 hK2=>?_);simp only [simprocAttr,implies_true,amz,tys];(repeat' (first|with_reducible (first|(refine hK2 _ ?_;clear hK2 K2)|refine And.intro ?_ ?_|intro hb)))
      (with_reducible refine WLI.fin ?_);refine hK' _ ?_;clear hK' K';(try simp only [za,z8,reduceIte,Nat.reduceEqDiff]);(try ((repeat ((fail_if_success (refine hK _ ?_));clear hK K));refine hK _ ?_;clear hK K))
      repeat' (first|refine T.zh fun K hK=>?_|refine T.block ?_|(refine T.reg (by kernel_rfl) fun K' hK'=>?_;simp only [bz];(repeat' (first|(with_reducible refine WL.fin ?_;refine hK' _ ?_;clear hK' K')|((with_reducible refine WL.step fun K2 hK2=>?_);simp only [simprocAttr,implies_true,amz,tys];(repeat' with_reducible (first|(refine hK2 _ ?_;clear hK2 K2)|refine And.intro ?_ ?_|intro hb))))))|refine T.skip ?_|refine T.exit ?_|refine T.zf rfl ?_|refine T.ze rfl ?_|refine T.cond rfl (fun hc=>?_) (fun hc=>?_)|refine T.ret ?_|simp only [za,z8,reduceIte,Nat.reduceEqDiff]|((repeat ((fail_if_success (refine hK _ ?_));clear hK K));refine hK _ ?_;clear hK K))
      refine zk.frm _ _ _ _ (fun t=>?_) (by simp only [wks,reduceIte,Nat.reduceEqDiff,implies_true,and_self,frI,hy6,]) (by simp only [wks,AV.okB,Nat.reduceLT,decide_true,List.all_cons,List.all_nil,Bool.and_self,frI,hy6,]) ?_;(focus (first|rfl|(simp only [ownI,List.cons_append];done)));exact z0i hB hl hs (hH _)
     | false =>
      have hrW:z2N l e s.j = []:=by rw [z2N,hW];simp [rdK,k3,k5]
      rw [hrW,List.append_nil] at hK
      repeat' (first|refine T.zh fun K hK=>?_|refine T.block ?_|(refine T.reg (by kernel_rfl) fun K' hK'=>?_;simp only [bz];(repeat' (first|(with_reducible refine WL.fin ?_;refine hK' _ ?_;clear hK' K')|((with_reducible refine WL.step fun K2 hK2=>?_);simp only [simprocAttr,implies_true,amz,tys,hW,k3,k5,z1l,z1n iO iF,z3X nI _ iO iF,nI,zR hB hR ht,z0y hB hR ht,Option.isSome_some];(repeat' with_reducible (first|(refine hK2 _ ?_;clear hK2 K2)|refine And.intro ?_ ?_|intro hb))))))|refine T.skip ?_|refine T.exit ?_|refine T.zf rfl ?_|refine T.ze rfl ?_|refine T.cond rfl (fun hc=>?_) (fun hc=>?_)|refine T.ret ?_|simp only [za,z8,reduceIte,Nat.reduceEqDiff]|((repeat ((fail_if_success (refine hK _ ?_));clear hK K));refine hK _ ?_;clear hK K))
      refine zk.frm _ _ _ _ (fun t=>?_) (by simp only [wks,reduceIte,Nat.reduceEqDiff,implies_true,and_self,frI,hy6,]) (by simp only [wks,AV.okB,Nat.reduceLT,decide_true,List.all_cons,List.all_nil,Bool.and_self,frI,hy6,]) ?_;(focus (first|rfl|(simp only [ownI,List.cons_append];done)));exact z0i hB hl hs (hH _)
  intro s' hw
  refine hK s' ?_
  refine T.weak hw ?_
  clear hK hw s' K ht
  obtain ⟨acc4,hacc4⟩ : ∃ a,a=acc3++z2N l e s.j:=⟨_,rfl⟩
  rw [← hacc4]
  have hfin:acc4=z0v l (s.j+1):=by rw [z3D hx,z4s,hacc4,hacc3,hacc1,hacc];simp only [List.append_assoc]
  have ht:=hH acc4
  rw [hfin] at ht ⊢
  clear hfin hrest hacc4 hacc3 hacc1 hacc
  have hmA:s.a<maxLen:=by have:=hs.a;unfold maxLen;omega
  have hmB:s.b<maxLen:=by have:=hs.b;unfold maxLen;omega
  have hmC:s.c<maxLen:=by have:=hs.c;unfold maxLen;omega
  have hmC1:s.c+1<maxLen:=by have:=hs.c;unfold maxLen;omega
  have hmD:s.d<maxLen:=by have:=hs.d;unfold maxLen;omega
  have hj53:s.j<1152921504606846976:=by omega
  simp only [frI,ownI,List.cons_append]
  cases k14:(e.kind==14) with
  | true =>
   have k4:(e.kind==4)=false:=by simp at k14 ⊢;omega
   have k5:(e.kind==5)=false:=by simp at k14 ⊢;omega
   repeat' (first|refine T.zh fun K hK=>?_|refine T.block ?_|(refine T.reg (by kernel_rfl) fun K' hK'=>?_;simp only [bz];(repeat' (first|(with_reducible refine WL.fin ?_;refine hK' _ ?_;clear hK' K')|((with_reducible refine WL.step fun K2 hK2=>?_);simp only [simprocAttr,implies_true,amz,tys,hmA,hmB,hmC,hmC1,hmD,z00,qW iG,z2d hx,zR hB hR ht,z0y hB hR ht,k14,qW (iK (by simpa using k14)),zae hx k14];(repeat' with_reducible (first|(refine hK2 _ ?_;clear hK2 K2)|refine And.intro ?_ ?_|intro hb))))))|refine T.skip ?_|refine T.exit ?_|refine T.zf rfl ?_|refine T.ze rfl ?_|refine T.cond rfl (fun hc=>?_) (fun hc=>?_)|refine T.ret ?_|simp only [za,z8,reduceIte,Nat.reduceEqDiff]|((repeat ((fail_if_success (refine hK _ ?_));clear hK K));refine hK _ ?_;clear hK K))
   have hs2:ItOk l ⟨s.j+1,s.m,s.R,s.a+1,s.b+1,s.c,s.d⟩:=z5h hs hx (by simp [pubK,k14]) _ _ _ _ (by have:=hs.a;omega) (by have:=hs.b;omega) (by have:=hs.c;omega) (by have:=hs.d;omega)
   refine hKL _ _ ?_ hs2 (by simp only [];omega)
   refine zk.subs _ _ _ _ (fun t o ho=>?_) (by simp only [wks,reduceIte,Nat.reduceEqDiff,implies_true,and_self,hy4,zm hj53]) (by simp only [wks,AV.okB,Nat.reduceLT,decide_true,List.all_cons,List.all_nil,Bool.and_self,hy4]) (z1d hB hl hs2 (hH _));have h1:=(z1d hB hl hs2 (hH _) t o ho).1;simp only [hpI,z4X hx k4 k5] at ho;exact (zb (by omega)).trans ((zb (by omega)).trans ho)
  | false =>
   cases k4:(e.kind==4) with
   | true =>
    have hw:wrAt e.obj e.off e=true:=by simp [wrAt,k4]
    repeat' (first|refine T.zh fun K hK=>?_|refine T.block ?_|(refine T.reg (by kernel_rfl) fun K' hK'=>?_;simp only [bz];(repeat' (first|(with_reducible refine WL.fin ?_;refine hK' _ ?_;clear hK' K')|((with_reducible refine WL.step fun K2 hK2=>?_);simp only [simprocAttr,implies_true,amz,tys,hmA,hmB,hmC,hmC1,hmD,z00,qW iG,z2d hx,zR hB hR ht,z0y hB hR ht,k14,k4,z1l,z1n iO iF,wr_upd hx hw iO iF];(repeat' with_reducible (first|(refine hK2 _ ?_;clear hK2 K2)|refine And.intro ?_ ?_|intro hb))))))|refine T.skip ?_|refine T.exit ?_|refine T.zf rfl ?_|refine T.ze rfl ?_|refine T.cond rfl (fun hc=>?_) (fun hc=>?_)|refine T.ret ?_|simp only [za,z8,reduceIte,Nat.reduceEqDiff]|((repeat ((fail_if_success (refine hK _ ?_));clear hK K));refine hK _ ?_;clear hK K))
    have hs2:ItOk l ⟨s.j+1,s.m,s.R,s.a+1,s.b,s.c,s.d+1⟩:=z5h hs hx (by simp [pubK,k4]) _ _ _ _ (by have:=hs.a;omega) (by have:=hs.b;omega) (by have:=hs.c;omega) (by have:=hs.d;omega)
    refine hKL _ _ ?_ hs2 (by simp only [];omega)
    refine zk.subs _ _ _ _ (fun t o ho=>?_) (by simp only [wks,reduceIte,Nat.reduceEqDiff,implies_true,and_self,hy4,zm hj53]) (by simp only [wks,AV.okB,Nat.reduceLT,decide_true,List.all_cons,List.all_nil,Bool.and_self,hy4]) (z1d hB hl hs2 (hH _));have h1:=(z1d hB hl hs2 (hH _) t o ho).1;simp only [hpI,z0Y hx k14] at ho;exact (zb (by omega)).trans ((zb (by omega)).trans ho)
   | false =>
    cases k5:(e.kind==5) with
    | true =>
     have hw:wrAt e.obj e.off e=true:=by simp [wrAt,k5]
     repeat' (first|refine T.zh fun K hK=>?_|refine T.block ?_|(refine T.reg (by kernel_rfl) fun K' hK'=>?_;simp only [bz];(repeat' (first|(with_reducible refine WL.fin ?_;refine hK' _ ?_;clear hK' K')|((with_reducible refine WL.step fun K2 hK2=>?_);simp only [simprocAttr,implies_true,amz,tys,hmA,hmB,hmC,hmC1,hmD,z00,qW iG,z2d hx,zR hB hR ht,z0y hB hR ht,k14,k4,k5,z1l,z1n iO iF,wr_upd hx hw iO iF];(repeat' with_reducible (first|(refine hK2 _ ?_;clear hK2 K2)|refine And.intro ?_ ?_|intro hb))))))|refine T.skip ?_|refine T.exit ?_|refine T.zf rfl ?_|refine T.ze rfl ?_|refine T.cond rfl (fun hc=>?_) (fun hc=>?_)|refine T.ret ?_|simp only [za,z8,reduceIte,Nat.reduceEqDiff]|((repeat ((fail_if_success (refine hK _ ?_));clear hK K));refine hK _ ?_;clear hK K))
     have hs2:ItOk l ⟨s.j+1,s.m,s.R,s.a+1,s.b,s.c,s.d+1⟩:=z5h hs hx (by simp [pubK,k5]) _ _ _ _ (by have:=hs.a;omega) (by have:=hs.b;omega) (by have:=hs.c;omega) (by have:=hs.d;omega)
     refine hKL _ _ ?_ hs2 (by simp only [];omega)
     refine zk.subs _ _ _ _ (fun t o ho=>?_) (by simp only [wks,reduceIte,Nat.reduceEqDiff,implies_true,and_self,hy4,zm hj53]) (by simp only [wks,AV.okB,Nat.reduceLT,decide_true,List.all_cons,List.all_nil,Bool.and_self,hy4]) (z1d hB hl hs2 (hH _));have h1:=(z1d hB hl hs2 (hH _) t o ho).1;simp only [hpI,z0Y hx k14] at ho;exact (zb (by omega)).trans ((zb (by omega)).trans ho)
    | false =>
     cases k1:(e.kind==1) with
     | true =>
      repeat' (first|refine T.zh fun K hK=>?_|refine T.block ?_|(refine T.reg (by kernel_rfl) fun K' hK'=>?_;simp only [bz];(repeat' (first|(with_reducible refine WL.fin ?_;refine hK' _ ?_;clear hK' K')|((with_reducible refine WL.step fun K2 hK2=>?_);simp only [simprocAttr,implies_true,amz,tys,hmA,hmB,hmC,hmC1,hmD,z00,qW iG,z2d hx,zR hB hR ht,z0y hB hR ht,k14,k4,k5,k1];(repeat' with_reducible (first|(refine hK2 _ ?_;clear hK2 K2)|refine And.intro ?_ ?_|intro hb))))))|refine T.skip ?_|refine T.exit ?_|refine T.zf rfl ?_|refine T.ze rfl ?_|refine T.cond rfl (fun hc=>?_) (fun hc=>?_)|refine T.ret ?_|simp only [za,z8,reduceIte,Nat.reduceEqDiff]|((repeat ((fail_if_success (refine hK _ ?_));clear hK K));refine hK _ ?_;clear hK K))
      have hs2:ItOk l ⟨s.j+1,s.m,s.R,s.a+1,s.b,s.c,s.d⟩:=z5h hs hx (by simp [pubK,k1]) _ _ _ _ (by have:=hs.a;omega) (by have:=hs.b;omega) (by have:=hs.c;omega) (by have:=hs.d;omega)
      refine hKL _ _ ?_ hs2 (by simp only [];omega)
      refine zk.subs _ _ _ _ (fun t o ho=>?_) (by simp only [wks,reduceIte,Nat.reduceEqDiff,implies_true,and_self,hy4,zm hj53]) (by simp only [wks,AV.okB,Nat.reduceLT,decide_true,List.all_cons,List.all_nil,Bool.and_self,hy4]) (z1d hB hl hs2 (hH _));have h1:=(z1d hB hl hs2 (hH _) t o ho).1;simp only [hpI,z0Y hx k14,z4X hx k4 k5] at ho;exact (zb (by omega)).trans ((zb (by omega)).trans ho)
     | false =>
      cases k2:(e.kind==2) with
      | true =>
       repeat' (first|refine T.zh fun K hK=>?_|refine T.block ?_|(refine T.reg (by kernel_rfl) fun K' hK'=>?_;simp only [bz];(repeat' (first|(with_reducible refine WL.fin ?_;refine hK' _ ?_;clear hK' K')|((with_reducible refine WL.step fun K2 hK2=>?_);simp only [simprocAttr,implies_true,amz,tys,hmA,hmB,hmC,hmC1,hmD,z00,qW iG,z2d hx,zR hB hR ht,z0y hB hR ht,k14,k4,k5,k1,k2];(repeat' with_reducible (first|(refine hK2 _ ?_;clear hK2 K2)|refine And.intro ?_ ?_|intro hb))))))|refine T.skip ?_|refine T.exit ?_|refine T.zf rfl ?_|refine T.ze rfl ?_|refine T.cond rfl (fun hc=>?_) (fun hc=>?_)|refine T.ret ?_|simp only [za,z8,reduceIte,Nat.reduceEqDiff]|((repeat ((fail_if_success (refine hK _ ?_));clear hK K));refine hK _ ?_;clear hK K))
       have hs2:ItOk l ⟨s.j+1,s.m,s.R,s.a+1,s.b,s.c,s.d⟩:=z5h hs hx (by simp [pubK,k2]) _ _ _ _ (by have:=hs.a;omega) (by have:=hs.b;omega) (by have:=hs.c;omega) (by have:=hs.d;omega)
       refine hKL _ _ ?_ hs2 (by simp only [];omega)
       refine zk.subs _ _ _ _ (fun t o ho=>?_) (by simp only [wks,reduceIte,Nat.reduceEqDiff,implies_true,and_self,hy4,zm hj53]) (by simp only [wks,AV.okB,Nat.reduceLT,decide_true,List.all_cons,List.all_nil,Bool.and_self,hy4]) (z1d hB hl hs2 (hH _));have h1:=(z1d hB hl hs2 (hH _) t o ho).1;simp only [hpI,z0Y hx k14,z4X hx k4 k5] at ho;exact (zb (by omega)).trans ((zb (by omega)).trans ho)
      | false =>
       cases k3:(e.kind==3) with
       | true =>
        repeat' (first|refine T.zh fun K hK=>?_|refine T.block ?_|(refine T.reg (by kernel_rfl) fun K' hK'=>?_;simp only [bz];(repeat' (first|(with_reducible refine WL.fin ?_;refine hK' _ ?_;clear hK' K')|((with_reducible refine WL.step fun K2 hK2=>?_);simp only [simprocAttr,implies_true,amz,tys,hmA,hmB,hmC,hmC1,hmD,z00,qW iG,z2d hx,zR hB hR ht,z0y hB hR ht,k14,k4,k5,k1,k2,k3];(repeat' with_reducible (first|(refine hK2 _ ?_;clear hK2 K2)|refine And.intro ?_ ?_|intro hb))))))|refine T.skip ?_|refine T.exit ?_|refine T.zf rfl ?_|refine T.ze rfl ?_|refine T.cond rfl (fun hc=>?_) (fun hc=>?_)|refine T.ret ?_|simp only [za,z8,reduceIte,Nat.reduceEqDiff]|((repeat ((fail_if_success (refine hK _ ?_));clear hK K));refine hK _ ?_;clear hK K))
        have hs2:ItOk l ⟨s.j+1,s.m,s.R,s.a+1,s.b,s.c,s.d⟩:=z5h hs hx (by simp [pubK,k3]) _ _ _ _ (by have:=hs.a;omega) (by have:=hs.b;omega) (by have:=hs.c;omega) (by have:=hs.d;omega)
        refine hKL _ _ ?_ hs2 (by simp only [];omega)
        refine zk.subs _ _ _ _ (fun t o ho=>?_) (by simp only [wks,reduceIte,Nat.reduceEqDiff,implies_true,and_self,hy4,zm hj53]) (by simp only [wks,AV.okB,Nat.reduceLT,decide_true,List.all_cons,List.all_nil,Bool.and_self,hy4]) (z1d hB hl hs2 (hH _));have h1:=(z1d hB hl hs2 (hH _) t o ho).1;simp only [hpI,z0Y hx k14,z4X hx k4 k5] at ho;exact (zb (by omega)).trans ((zb (by omega)).trans ho)
       | false =>
        have hpk:pubK e.kind=true:=by simp [pubK,k14,k4,k5,k1,k2,k3]
        cases hM:s.m e.obj e.off with
        | some i =>
         obtain ⟨r,hr⟩ : ∃ r,r=atL l e.obj e.off s.j:=⟨_,rfl⟩
         have hrow:=hs.row _ _ _ hM
         rw [← hr] at hrow
         have hrw:=tl_row (B:=B) ht (z7u hrow)
         have hat:atM B s.m (kyl e.obj e.off)=some (.own (i+B)):=by rw [atM,z6O _ iO iF,hM];rfl
         have hi6:i<1000000:=by have:=(List.getElem?_eq_some_iff.1 hrow).1;have:=hs.R;have:=hs.j;omega
         have hR2:(List.map qw (s.R.set i (r ++ [s.j]))).length≤1000000:=by rw [List.length_map,List.length_set];have:=hs.R;have:=hs.j;omega
         have pyi:(y=i+B)=False:=by simp;omega
         have n0:(i+B=5000000)=False:=by simp;omega
         have m0:(5000000=i+B)=False:=by simp;omega
         have n1:(i+B=5000001)=False:=by simp;omega
         have m1:(5000001=i+B)=False:=by simp;omega
         have n2:(i+B=5000002)=False:=by simp;omega
         have m2:(5000002=i+B)=False:=by simp;omega
         have n3:(i+B=5000003)=False:=by simp;omega
         have m3:(5000003=i+B)=False:=by simp;omega
         have n4:(i+B=5000004)=False:=by simp;omega
         have m4:(5000004=i+B)=False:=by simp;omega
         have n5:(i+B=5000005)=False:=by simp;omega
         have m5:(5000005=i+B)=False:=by simp;omega
         have n6:(i+B=5000006)=False:=by simp;omega
         have m6:(5000006=i+B)=False:=by simp;omega
         have hrn:r.length≤1000000:=by
          rw [hr]
          have:=List.length_filter_le (fun k=>(l[k]?).any (z4r e.obj e.off)) (List.range s.j)
          rw [List.length_range] at this
          have h2:=hs.j
          unfold atL
          omega
         have hb0 : 1≤maxLen:=by unfold maxLen;omega
         have hb1:r.length+1≤maxLen:=by unfold maxLen;omega
         have hb2:(r.length+1)*8≤140737488355328:=by omega
         have hsub:=tl_sub (B:=B) (R:=s.R.map qw) ht (t:=i+B) AV.zB (by omega)
         have hset:=tl_setI (B:=B) hB (R:=s.R.map qw) ht i (qw (r ++ [s.j]))
         repeat' (first|refine T.zh fun K hK=>?_|refine T.block ?_|(refine T.reg (by kernel_rfl) fun K' hK'=>?_;simp only [bz];(repeat' (first|(with_reducible refine WL.fin ?_;refine hK' _ ?_;clear hK' K')|((with_reducible refine WL.step fun K2 hK2=>?_);simp only [simprocAttr,implies_true,amz,tys,hmA,hmB,hmC,hmC1,hmD,z00,qW iG,z2d hx,zR hB hR ht,z0y hB hR ht,k14,k4,k5,k1,k2,k3,z1l,z1n iO iF,hat,hrw,qJ,hb0,hb1,hb2,hsub,hset,z0S,rowsI_set,AO.z9w,atM_old hs hM iO iF,pyi,z0y hB hR2 ht,zR hB hR2 ht,n0,n1,n2,n3,n4,n5,n6,m0,m1,m2,m3,m4,m5,m6];(repeat' with_reducible (first|(refine hK2 _ ?_;clear hK2 K2)|refine And.intro ?_ ?_|intro hb))))))|refine T.skip ?_|refine T.exit ?_|refine T.zf rfl ?_|refine T.ze rfl ?_|refine T.cond rfl (fun hc=>?_) (fun hc=>?_)|refine T.ret ?_|simp only [za,z8,reduceIte,Nat.reduceEqDiff]|((repeat ((fail_if_success (refine hK _ ?_));clear hK K));refine hK _ ?_;clear hK K))
         have hs2:ItOk l ⟨s.j+1,s.m,s.R.set i (r ++ [s.j]),s.a+1,s.b,s.c+1+1,s.d⟩:=by
          rw [hr]
          exact it_old hs hx hpk hM _ _ _ _ (by have:=hs.a;omega) (by have:=hs.b;omega) (by have:=hs.c;omega) (by have:=hs.d;omega)
         refine hKL _ _ ?_ hs2 (by simp only [];omega)
         refine zk.subs _ _ _ _ (fun t o ho=>?_) (by simp only [wks,reduceIte,Nat.reduceEqDiff,implies_true,and_self,hy4,zm hj53]) (by simp only [wks,AV.okB,Nat.reduceLT,decide_true,List.all_cons,List.all_nil,Bool.and_self,hy4]) (z1d hB hl hs2 (hH _));have h1:=(z1d hB hl hs2 (hH _) t o ho).1;simp only [hpI,z0Y hx k14,z4X hx k4 k5] at ho;exact (zb (by omega)).trans ((zb (by omega)).trans ho)
        | none =>
         have hat:atM B s.m (kyl e.obj e.off)=none:=by rw [atM,z6O _ iO iF,hM];rfl
         have hb1 : 1≤maxLen:=by unfold maxLen;omega
         repeat' (first|refine T.zh fun K hK=>?_|refine T.block ?_|(refine T.reg (by kernel_rfl) fun K' hK'=>?_;simp only [bz];(repeat' (first|(with_reducible refine WL.fin ?_;refine hK' _ ?_;clear hK' K')|((with_reducible refine WL.step fun K2 hK2=>?_);simp only [simprocAttr,implies_true,amz,tys,hmA,hmB,hmC,hmC1,hmD,z00,qW iG,z2d hx,zR hB hR ht,z0y hB hR ht,k14,k4,k5,k1,k2,k3,z1l,z1n iO iF,hat,hb1];(repeat' with_reducible (first|(refine hK2 _ ?_;clear hK2 K2)|refine And.intro ?_ ?_|intro hb))))))|refine T.skip ?_|refine T.exit ?_|refine T.zf rfl ?_|refine T.ze rfl ?_|refine T.cond rfl (fun hc=>?_) (fun hc=>?_)|refine T.ret ?_|simp only [za,z8,reduceIte,Nat.reduceEqDiff]|((repeat ((fail_if_success (refine hK _ ?_));clear hK K));refine hK _ ?_;clear hK K))
         have hs2:ItOk l ⟨s.j+1,updN s.m e.obj e.off s.R.length,s.R ++ [[s.j]],s.a+1,s.b,s.c+1+1,s.d⟩:=it_new hs hx hpk hM _ _ _ _ (by have:=hs.a;omega) (by have:=hs.b;omega) (by have:=hs.c;omega) (by have:=hs.d;omega)
         have hR1:s.R.length≤1000000:=by have:=hs.R;have:=hs.j;omega
         have hz1:(s.R.length+B<5000007)=True:=by simp;omega
         have p0:(5000000=s.R.length+B)=False:=by simp;omega
         have q0:(5000000 != s.R.length+B)=true:=by simp;omega
         have p1:(5000001=s.R.length+B)=False:=by simp;omega
         have q1:(5000001 != s.R.length+B)=true:=by simp;omega
         have p2:(5000002=s.R.length+B)=False:=by simp;omega
         have q2:(5000002 != s.R.length+B)=true:=by simp;omega
         have p3:(5000003=s.R.length+B)=False:=by simp;omega
         have q3:(5000003 != s.R.length+B)=true:=by simp;omega
         have p4:(5000004=s.R.length+B)=False:=by simp;omega
         have q4:(5000004 != s.R.length+B)=true:=by simp;omega
         have p5:(5000005=s.R.length+B)=False:=by simp;omega
         have q5:(5000005 != s.R.length+B)=true:=by simp;omega
         have p6:(5000006=s.R.length+B)=False:=by simp;omega
         have q6:(5000006 != s.R.length+B)=true:=by simp;omega
         have hne:=tl_ne2 (B:=B) hB hR ht (t := 5000006) (by omega)
         rw [List.length_map] at hne
         have hren:=tl_ren (B:=B) (R:=s.R.map qw) ht (t := 5000006) (t':=s.R.length+B) (by omega) (by omega)
         have py:(y=5000006)=False:=by simp;omega
         have pz:(y=s.R.length+B)=False:=by simp;omega
         refine hKL _ _ ((zk.ren _ 5000006 (s.R.length+B)).trans ?_) hs2 (by simp only [];omega)
         simp only [ASt.ren,AV.qK,AV.z0p,AV.z06,AV.z0C,AV.z1I,AV.z0F,AV.z0a,AV.z08,AV.z1p,AV.z0E,AV.z0G,AO.z0O,AO.z0c,AO.z10,AO.z0W,List.map_cons,List.map_nil,List.filter_cons,List.filter_nil,zx,qf,reduceIte,Nat.reduceEqDiff,Nat.reduceLT,Nat.reduceBneDiff,bne_self_eq_false,Bool.and_true,Bool.and_false,Bool.true_and,Bool.false_and,Bool.and_self,Bool.false_eq_true,ne_eq,not_false_eq_true,not_true_eq_false,and_self,and_true,true_and,and_false,AO.ren_amap,atM_new hB hl hs _ iO iF,hne,hren,hz1,py,pz,p0,p1,p2,p3,p4,p5,p6,q0,q1,q2,q3,q4,q5,q6]
         refine zk.subs _ _ _ _ (fun t o ho=>?_) (by simp only [wks,reduceIte,Nat.reduceEqDiff,implies_true,and_self,hy4,zm hj53]) (by simp only [wks,AV.okB,Nat.reduceLT,decide_true,List.all_cons,List.all_nil,Bool.and_self,hy4]) (z1d hB hl hs2 (hH _))
         have h1:=(z1d hB hl hs2 (hH _) t o ho).1
         simp only [hpI,z0Y hx k14,z4X hx k4 k5] at ho
         rw [hpI_new hB _ _ _ _ hR1] at ho
         exact (skip2 (by omega) (by omega)).trans ho
 ·have hd:decide ((s.j:Int)<(l.length:Int))=false:=by simpa using hlt
  have hjl:s.j=l.length:=by have:=hs.j;omega
  simp only [hpI]
  repeat' (first|refine T.zh fun K hK=>?_|refine T.block ?_|(refine T.reg (by kernel_rfl) fun K' hK'=>?_;simp only [bz];(repeat' (first|(with_reducible refine WL.fin ?_;refine hK' _ ?_;clear hK' K')|((with_reducible refine WL.step fun K2 hK2=>?_);simp only [simprocAttr,implies_true,amz,tys,hd];(repeat' with_reducible (first|(refine hK2 _ ?_;clear hK2 K2)|refine And.intro ?_ ?_|intro hb))))))|refine T.skip ?_|refine T.exit ?_|refine T.zf rfl ?_|refine T.ze rfl ?_|refine T.cond rfl (fun hc=>?_) (fun hc=>?_)|refine T.ret ?_|simp only [za,z8,reduceIte,Nat.reduceEqDiff]|((repeat ((fail_if_success (refine hK _ ?_));clear hK K));refine hK _ ?_;clear hK K))
  refine FinM.ret (s':=⟨[],H (z0v l l.length),190,2000000⟩) (r := .tup []) (.inl rfl) Try.results52 (zk.subs _ _ _ _ (fun t o ho=>?_) (by simp) (by simp) (fun t o h=>(hH _).at' h)) rfl rfl ⟨rfl,rfl⟩
  rw [← hjl] at ho
  exact (lk_end hB ((hH _).at' ho).1 _ _ _ _ _ _).trans ho
end Go.Proofs.Ytdlgoofjechocaa
