/- Texts Na, Nb, Nc, Oa, Od, Ob, Oc, Of. -/
import Derived.Lib.ItoaLen
import Derived.Ground.NamesProg
import Derived.Shelf.Strings.OnBuilder
import Derived.Shelf.Strconv.Itoa3
import Derived.Shelf.Strings.Builder1
import Derived.Shelf.Strings.BuilderX
import Derived.Test.YtbkkginjfnjffaaGreatDoorZ09
set_option maxHeartbeats 32000000
set_option maxRecDepth 100000
set_option linter.unusedSimpArgs false
set_option linter.unusedVariables false
namespace Go.Proofs.YtbkkginjfnjffaaGreatDoor
open Go.RowKit Go.Sort
def ascL:List Int→Bool
 | a :: b :: r=>decide (a<b)&&ascL (b :: r)
 | _=>true
theorem z3d : ∀ {l:List Int},ascL l=true ↔ ∀ (k:Nat) (x y:Int),l[k]? = some x→l[k+1]? = some y→x<y
 | []=>by simp [ascL]
 | [a]=>by simp [ascL]
 | a :: b :: r=>by
  rw [ascL,Bool.and_eq_true,decide_eq_true_eq,z3d]
  constructor
  ·rintro ⟨h1,h2⟩ k x y hx hy
   cases k with
   | zero=>cases hx;cases hy;exact h1
   | succ k=>exact h2 k x y (by simpa using hx) (by simpa using hy)
  ·intro h
   exact ⟨h 0 a b rfl rfl,fun k x y hx hy=>h (k+1) x y (by simpa using hx) (by simpa using hy)⟩
theorem asc_lt {l:List Int} (h:ascL l=true) : ∀ (d k:Nat) (x y:Int),l[k]? = some x→l[k+d+1]? = some y→x<y
 | 0,k,x,y,hx,hy=>z3d.1 h k x y hx hy
 | d+1,k,x,y,hx,hy=>by
  obtain ⟨z,hz⟩:=qA (l:=l) (k:=k+d+1) (by have:=(List.getElem?_eq_some_iff.1 hy).1;omega)
  have h1:=asc_lt h d k x z hx hz
  have h2:=z3d.1 h (k+d+1) z y hz (by rw [show k+d+1+1=k+(d+1)+1 by omega];exact hy)
  omega
def lastZ (l:List Int):Int:=(l[l.length-1]?).getD 0
def hd0:List Int→Bool
 | []=>false
 | a :: _=>a==0
def z1x (st:List Int) (sz:Int):Bool:=hd0 st&&decide (sz≤1099511627776)&&ascL st&&decide (lastZ st≤sz)
def cntN (st:List Int) (a:Int):Nat:=(st.takeWhile fun x=>decide (x≤a)).length
theorem z6X (st:List Int) (a:Int):cntN st a≤st.length:=List.Sublist.length_le (List.takeWhile_sublist _)
theorem z5s : ∀ {st:List Int} {a:Int} {k:Nat} {x:Int},ascL st=true→st[k]? = some x→(x≤a↔k<cntN st a)
 | [],_,_,_,_,h=>by simp at h
 | y :: r,a,k,x,hs,h=>by
  have hs2:ascL r=true:=z3d.2 fun k x y hx hy=>z3d.1 hs (k+1) x y (by simpa using hx) (by simpa using hy)
  unfold cntN
  rw [List.takeWhile_cons]
  by_cases hy:y≤a
  ·rw [if_pos (by simpa using hy),List.length_cons]
   cases k with
   | zero=>cases h;simp [hy]
   | succ k =>
    have:=z5s (a:=a) hs2 (show r[k]? = some x by simpa using h)
    unfold cntN at this
    omega
  ·rw [if_neg (by simpa using hy),List.length_nil]
   cases k with
   | zero=>cases h;simp [hy]
   | succ k =>
    have:=asc_lt hs k 0 y x rfl (by rw [Nat.zero_add];exact h)
    omega
def posN (st:List Int) (sz a:Int):Int × Int × Int :=
 if z1x st sz=false then (0,0,1) else if a<0∨sz<a then (0,0,2) else ((cntN st a:Int),a-(st[cntN st a-1]?).getD 0+1,0)
def lnA (st:List Int) (sz:Int):AV := .agg [.p (.seq 1 (rowZ st)),.int sz]
def poA (p:Int × Int × Int):AV := .tup [.int p.1,.int p.2.1,.int p.2.2]
theorem z3R {st:List Int} {sz:Int} : z1x st sz=true ↔ ∃ r,st=0 :: r∧sz≤1099511627776∧ascL st=true∧lastZ st≤sz:=by
 unfold z1x
 rw [Bool.and_eq_true,Bool.and_eq_true,Bool.and_eq_true,decide_eq_true_eq,decide_eq_true_eq]
 constructor
 ·rintro ⟨⟨⟨h1,h2⟩,h3⟩,h4⟩
  cases st with
  | nil=>cases h1
  | cons a r =>
   have:a=0:=by simpa [hd0] using h1
   subst this
   exact ⟨r,rfl,h2,h3,h4⟩
 ·rintro ⟨r,rfl,h2,h3,h4⟩
  exact ⟨⟨⟨rfl,h2⟩,h3⟩,h4⟩
theorem asc_drop {st:List Int} {k:Nat} {x y:Int} (hx:st[k]? = some x) (hy:st[k+1]? = some y):ascL (st.drop k)=(decide (x<y)&&ascL (st.drop (k+1))):=by
 rw [drop_at hx,drop_at hy,ascL]
theorem asc_end {st:List Int} {k:Nat} (h:st.length≤k+1):ascL (st.drop k)=true:=by
 have:(st.drop k).length≤1:=by rw [List.length_drop];omega
 match hl:st.drop k,this with
 | [],_=>rfl
 | [a],_=>rfl
theorem z5C (st:List Int) (sz:Int) (hl:st.length≤1000000):zt Tryz.prog 67 [lnA st sz] (.bool (z1x st sz)):=by
 have hsl:=z0N st
 simp only [lnA]
 cases st with
 | nil =>
  refine zt.of Tryz.func67 rfl 49 rfl (by decide) (by simp [AV.okB]) ?_
  repeat' (first|refine T.zk fun K hK=>?_|apply T.block|(refine T.reg (by kernel_rfl) fun K' hK'=>?_;simp only [bz];(with_reducible repeat' (first|(apply WL.fin;apply hK';clear hK' K')|(refine WL.step fun K2 hK2=>?_;simp only [simprocAttr,implies_true,amz,zf,tys,hsl,List.length_nil,Int.natCast_zero,beq_self_eq_true];repeat' (first|(apply hK2;clear hK2 K2)|apply And.intro|intro hb)))))|apply T.skip|apply T.exit|refine T.zh rfl ?_|refine T.zg rfl ?_|refine T.cond rfl (fun hc=>?_) (fun hc=>?_)|apply T.ret|simp only [ze,z8,reduceIte,Nat.reduceEqDiff]|((repeat ((fail_if_success apply hK);clear hK K));apply hK;clear hK K))
  all_goals (refine zP.ret (.inr rfl) Tryz.results67 ?_;simp only [zI,zu,zw,simprocAttr,implies_true,amz,zf,tys,z1x,hd0,Bool.false_and])
 | cons a r =>
 have g0:(((a :: r).length:Int)==0)=false:=by simp;omega
 have r0:(rowZ (a :: r))[0]? = some [PV.val (.int .i64 a)]:=rfl
 have z0:(0≤(0:Int))=True:=eq_true (Int.le_refl 0)
 by_cases ha:a=0
 case neg =>
  have g1:(a != 0)=true:=by simpa using ha
  have he:z1x (a :: r) sz=false:=by simp [z1x,hd0,ha]
  refine zt.of Tryz.func67 rfl 49 rfl (by decide) (by simp [AV.okB]) ?_
  repeat' (first|refine T.zk fun K hK=>?_|apply T.block|(refine T.reg (by kernel_rfl) fun K' hK'=>?_;simp only [bz];(with_reducible repeat' (first|(apply WL.fin;apply hK';clear hK' K')|(refine WL.step fun K2 hK2=>?_;simp only [simprocAttr,implies_true,amz,zf,tys,hsl,g0,r0,g1,Int.toNat_zero,Int.le_refl];repeat' (first|(apply hK2;clear hK2 K2)|apply And.intro|intro hb)))))|apply T.skip|apply T.exit|refine T.zh rfl ?_|refine T.zg rfl ?_|refine T.cond rfl (fun hc=>?_) (fun hc=>?_)|apply T.ret|simp only [ze,z8,reduceIte,Nat.reduceEqDiff]|((repeat ((fail_if_success apply hK);clear hK K));apply hK;clear hK K))
  all_goals (refine zP.ret (.inr rfl) Tryz.results67 ?_;simp only [zI,zu,zw,simprocAttr,implies_true,amz,zf,tys,he])
 subst ha
 have g1:((0:Int) != 0)=false:=by simp
 by_cases hz : 1099511627776<sz
 ·have g2:decide (1099511627776<sz)=true:=by simpa using hz
  have he:z1x (0 :: r) sz=false:=by simp [z1x,hd0,Int.not_le.2 hz]
  refine zt.of Tryz.func67 rfl 49 rfl (by decide) (by simp [AV.okB]) ?_
  repeat' (first|refine T.zk fun K hK=>?_|apply T.block|(refine T.reg (by kernel_rfl) fun K' hK'=>?_;simp only [bz];(with_reducible repeat' (first|(apply WL.fin;apply hK';clear hK' K')|(refine WL.step fun K2 hK2=>?_;simp only [simprocAttr,implies_true,amz,zf,tys,hsl,g0,r0,g1,g2,Int.toNat_zero,Int.le_refl];repeat' (first|(apply hK2;clear hK2 K2)|apply And.intro|intro hb)))))|apply T.skip|apply T.exit|refine T.zh rfl ?_|refine T.zg rfl ?_|refine T.cond rfl (fun hc=>?_) (fun hc=>?_)|apply T.ret|simp only [ze,z8,reduceIte,Nat.reduceEqDiff]|((repeat ((fail_if_success apply hK);clear hK K));apply hK;clear hK K))
  all_goals (refine zP.ret (.inr rfl) Tryz.results67 ?_;simp only [zI,zu,zw,simprocAttr,implies_true,amz,zf,tys,he])
 have g2:decide (1099511627776<sz)=false:=by simpa using hz
 obtain ⟨s,hs⟩ : ∃ s,s=(0 :: r:List Int):=⟨_,rfl⟩
 have he:z1x s sz=(ascL s&&decide (lastZ s≤sz)):=by
  rw [hs];simp [z1x,hd0,Int.not_lt.1 hz]
 have hpos : 0<s.length:=by rw [hs];simp
 rw [← hs] at hsl g0 r0 hl ⊢
 rw [he]
 obtain ⟨t,ht⟩ : ∃ t,t=s.drop 1:=⟨_,rfl⟩
 have htl:t.length=s.length-1:=by rw [ht,List.length_drop]
 have hrt:=z0N t
 have hdr:(rowZ s).drop 1=rowZ t:=by rw [ht];simp [rowZ,List.map_drop]
 have htk:(rowZ s).take s.length=rowZ s:=List.take_of_length_le (by rw [hsl];exact Nat.le_refl _)
 have b1:((1:Int)≤(s.length:Int))=True:=eq_true (by omega)
 have b2:((s.length:Int)≤(s.length:Int))=True:=eq_true (Int.le_refl _)
 have b3:(0≤(1:Int))=True:=eq_true (by omega)
 refine zt.of Tryz.func67 rfl 49 rfl (by decide) (by simp [AV.okB]) ?_
 repeat' (first|refine T.zk fun K hK=>?_|apply T.block|(refine T.reg (by kernel_rfl) fun K' hK'=>?_;simp only [bz];(with_reducible repeat' (first|(apply WL.fin;apply hK';clear hK' K')|(refine WL.step fun K2 hK2=>?_;simp only [simprocAttr,implies_true,amz,zf,tys,hsl,g0,r0,g1,g2,Int.toNat_zero,Int.le_refl,Option.getD_some,Option.getD_none,b1,b2,b3,Int.toNat_natCast,Int.toNat_one,htk,hdr,hrt];repeat' (first|(apply hK2;clear hK2 K2)|apply And.intro|intro hb)))))|apply T.skip|apply T.exit|refine T.zh rfl ?_|refine T.zg rfl ?_|refine T.cond rfl (fun hc=>?_) (fun hc=>?_)|apply T.ret|simp only [ze,z8,reduceIte,Nat.reduceEqDiff]|((repeat ((fail_if_success apply hK);clear hK K));apply hK;clear hK K))
 refine T.z02 (fun i:Nat=>⟨[(1,.ptr 0 0),(2,.bool false),(23,.p (.seq 1 (rowZ t))),(24,.int t.length),(25,.int i)],[(0,.boxP none 57 [.p (.seq 1 (rowZ s)),.int sz])],49,1⟩) (fun i=>i≤t.length∧ascL s=ascL (s.drop i)) (fun i=>t.length-i) 0 ⟨Nat.zero_le _,by simp⟩ (by refine zi.of' rfl ?_;simp only [wks,reduceIte,Nat.reduceEqDiff,ASt.okB,AV.okB,Nat.reduceLT,implies_true,Int.natCast_zero]) ?_
 rintro i ⟨hi,ha⟩ KL hKL
 by_cases hlt:i<t.length
 case neg =>
  have hd:decide ((i:Int)<(t.length:Int))=false:=by simpa using hlt
  rw [asc_end (k:=i) (by omega)] at ha
  have hls:s[s.length-1]? = some (lastZ s):=by
   obtain ⟨x,hx⟩:=qA (l:=s) (k:=s.length-1) (by omega)
   rw [lastZ,hx];rfl
  have mls:=z0J hls
  have w1:IntKind.i64.wrap ((s.length:Int)-1)=((s.length-1:Nat):Int):=by rw [z15 (by omega) (by omega)];omega
  have c0:(0≤((s.length-1:Nat):Int))=True:=eq_true (by omega)
  repeat' (first|refine T.zk fun K hK=>?_|apply T.block|(refine T.reg (by kernel_rfl) fun K' hK'=>?_;simp only [bz];(with_reducible repeat' (first|(apply WL.fin;apply hK';clear hK' K')|(refine WL.step fun K2 hK2=>?_;simp only [simprocAttr,implies_true,amz,zf,tys,hd];repeat' (first|(apply hK2;clear hK2 K2)|apply And.intro|intro hb)))))|apply T.skip|apply T.exit|refine T.zh rfl ?_|refine T.zg rfl ?_|refine T.cond rfl (fun hc=>?_) (fun hc=>?_)|apply T.ret|simp only [ze,z8,reduceIte,Nat.reduceEqDiff]|((repeat ((fail_if_success apply hK);clear hK K));apply hK;clear hK K))
  refine T.drw 11 (by kernel_rfl) (by kernel_rfl) fun K' hK'=>?_;simp only [yl];(repeat' (first|(with_reducible refine WL.fin ?_;apply hK';clear hK' K')|(with_reducible refine WD.fin ?_)|((with_reducible first|refine WL.step fun K2 hK2=>?_|refine WD.step fun K2 hK2=>?_);simp only [simprocAttr,implies_true,amz,zf,tys,hsl,w1,c0,Int.toNat_natCast,mls];(repeat' with_reducible (first|(apply hK2;clear hK2 K2)|apply And.intro|intro hb)))));all_goals ((try simp only [ze,z8,reduceIte,Nat.reduceEqDiff]);(try ((repeat ((fail_if_success apply hK);clear hK K));apply hK;clear hK K)))
  all_goals repeat' (first|refine T.zk fun K hK=>?_|apply T.block|(refine T.reg (by kernel_rfl) fun K' hK'=>?_;simp only [bz];(with_reducible repeat' (first|(apply WL.fin;apply hK';clear hK' K')|(refine WL.step fun K2 hK2=>?_;simp only [simprocAttr,implies_true,amz,zf,tys];repeat' (first|(apply hK2;clear hK2 K2)|apply And.intro|intro hb)))))|apply T.skip|apply T.exit|refine T.zh rfl ?_|refine T.zg rfl ?_|refine T.cond rfl (fun hc=>?_) (fun hc=>?_)|apply T.ret|simp only [ze,z8,reduceIte,Nat.reduceEqDiff]|((repeat ((fail_if_success apply hK);clear hK K));apply hK;clear hK K))
  all_goals (refine zP.ret (.inr rfl) Tryz.results67 ?_;simp only [zI,zu,zw,simprocAttr,implies_true,amz,zf,tys,ha,Bool.true_and])
 have hd:decide ((i:Int)<(t.length:Int))=true:=by simpa using hlt
 have hi0:(0≤(i:Int))=True:=eq_true (by omega)
 obtain ⟨x,hx⟩:=qA (l:=s) (k:=i) (by omega)
 obtain ⟨y,hy⟩:=qA (l:=s) (k:=i+1) (by omega)
 have hyt:t[i]? = some y:=by rw [ht,List.getElem?_drop,Nat.add_comm,hy]
 have mx:=z0J hx
 have my:=z0J hyt
 rw [asc_drop hx hy] at ha
 by_cases hxy:x<y
 ·have f1:decide (y≤x)=false:=by simpa using hxy
  rw [decide_eq_true hxy,Bool.true_and] at ha
  repeat' (first|refine T.zk fun K hK=>?_|apply T.block|(refine T.reg (by kernel_rfl) fun K' hK'=>?_;simp only [bz];(with_reducible repeat' (first|(apply WL.fin;apply hK';clear hK' K')|(refine WL.step fun K2 hK2=>?_;simp only [simprocAttr,implies_true,amz,zf,tys,hd,hi0,Int.toNat_natCast,mx,my,f1];repeat' (first|(apply hK2;clear hK2 K2)|apply And.intro|intro hb)))))|apply T.skip|apply T.exit|refine T.zh rfl ?_|refine T.zg rfl ?_|refine T.cond rfl (fun hc=>?_) (fun hc=>?_)|apply T.ret|simp only [ze,z8,reduceIte,Nat.reduceEqDiff]|((repeat ((fail_if_success apply hK);clear hK K));apply hK;clear hK K))
  refine hKL _ (i+1) (by refine zi.of' rfl ?_;simp only [wks,reduceIte,Nat.reduceEqDiff,ASt.okB,AV.okB,Nat.reduceLT,implies_true,zx (show i<1152921504606846976 by omega)]) ⟨hlt,ha⟩ (by omega)
 ·have f1:decide (y≤x)=true:=by simpa using hxy
  rw [decide_eq_false hxy,Bool.false_and] at ha
  repeat' (first|refine T.zk fun K hK=>?_|apply T.block|(refine T.reg (by kernel_rfl) fun K' hK'=>?_;simp only [bz];(with_reducible repeat' (first|(apply WL.fin;apply hK';clear hK' K')|(refine WL.step fun K2 hK2=>?_;simp only [simprocAttr,implies_true,amz,zf,tys,hd,hi0,Int.toNat_natCast,mx,my,f1];repeat' (first|(apply hK2;clear hK2 K2)|apply And.intro|intro hb)))))|apply T.skip|apply T.exit|refine T.zh rfl ?_|refine T.zg rfl ?_|refine T.cond rfl (fun hc=>?_) (fun hc=>?_)|apply T.ret|simp only [ze,z8,reduceIte,Nat.reduceEqDiff]|((repeat ((fail_if_success apply hK);clear hK K));apply hK;clear hK K))
  all_goals (refine zP.ret (.inr rfl) Tryz.results67 ?_;simp only [zI,zu,zw,simprocAttr,implies_true,amz,zf,tys,ha,Bool.false_and])
abbrev lnB (b:Nat) (st:List Int) (sz:Int):AO := .boxP (some b) 57 [.p (.seq 1 (rowZ st)),.int sz]
abbrev atB (b:Nat) (a:Int):AO := .boxP (some b) 3 [.int a]
theorem clo_ok (b0 b1:Nat) (st:List Int) (sz a:Int) (k:Nat) (x:Int) (hx:st[k]? = some x):MemC Tryz.prog 69 2 [(0,lnB b0 st sz),(1,atB b1 a)] [.int k,.ptr 0 0,.ptr 1 0] fun hp' r=>hp' = [(0,lnB b0 st sz),(1,atB b1 a)]∧r = .bool (decide (a<x)):=by
 have mx:=z0J hx
 have k0:(0≤(k:Int))=True:=eq_true (by omega)
 simp only [lnB,atB]
 refine MemC.of Tryz.func69 rfl 12 rfl (by decide) ?_;simp only [z08,frOf]
 repeat' (first|refine T.zk fun K hK=>?_|apply T.block|(refine T.reg (by kernel_rfl) fun K' hK'=>?_;simp only [bz];(with_reducible repeat' (first|(apply WL.fin;apply hK';clear hK' K')|(refine WL.step fun K2 hK2=>?_;simp only [simprocAttr,implies_true,amz,zf,tys];repeat' (first|(apply hK2;clear hK2 K2)|apply And.intro|intro hb)))))|apply T.skip|apply T.exit|refine T.zh rfl ?_|refine T.zg rfl ?_|refine T.cond rfl (fun hc=>?_) (fun hc=>?_)|apply T.ret|simp only [ze,z8,reduceIte,Nat.reduceEqDiff]|((repeat ((fail_if_success apply hK);clear hK K));apply hK;clear hK K))
 refine T.drw 7 (by kernel_rfl) (by kernel_rfl) fun K' hK'=>?_;simp only [yl];(repeat' (first|(with_reducible refine WL.fin ?_;apply hK';clear hK' K')|(with_reducible refine WD.fin ?_)|((with_reducible first|refine WL.step fun K2 hK2=>?_|refine WD.step fun K2 hK2=>?_);simp only [simprocAttr,implies_true,amz,zf,tys,k0,Int.toNat_natCast,mx];(repeat' with_reducible (first|(apply hK2;clear hK2 K2)|apply And.intro|intro hb)))));all_goals ((try simp only [ze,z8,reduceIte,Nat.reduceEqDiff]);(try ((repeat ((fail_if_success apply hK);clear hK K));apply hK;clear hK K)))
 all_goals repeat' (first|refine T.zk fun K hK=>?_|apply T.block|(refine T.reg (by kernel_rfl) fun K' hK'=>?_;simp only [bz];(with_reducible repeat' (first|(apply WL.fin;apply hK';clear hK' K')|(refine WL.step fun K2 hK2=>?_;simp only [simprocAttr,implies_true,amz,zf,tys];repeat' (first|(apply hK2;clear hK2 K2)|apply And.intro|intro hb)))))|apply T.skip|apply T.exit|refine T.zh rfl ?_|refine T.zg rfl ?_|refine T.cond rfl (fun hc=>?_) (fun hc=>?_)|apply T.ret|simp only [ze,z8,reduceIte,Nat.reduceEqDiff]|((repeat ((fail_if_success apply hK);clear hK K));apply hK;clear hK K))
 all_goals (refine FinM.ret (s':=⟨[(4,.bool (decide (a<x)))],[(0,lnB b0 st sz),(1,atB b1 a)],12,2⟩) (r := .bool (decide (a<x))) (.inr rfl) Tryz.results69 (by refine zi.of' rfl ?_;simp only [wks,reduceIte,Nat.reduceEqDiff,ASt.okB,AV.okB,Nat.reduceLT,implies_true,lnB,atB]) rfl ?_ ?_;(focus (simp only [zI,zu,zw,simprocAttr,implies_true,amz,zf,tys,];done)))
 all_goals exact ⟨rfl,rfl⟩
theorem search_ok (b0 b1:Nat) (st:List Int) (sz a:Int) (hs:ascL st=true) (hl:st.length≤1000000):MemC Tryz.prog 68 2 [(0,lnB b0 st sz),(1,atB b1 a)] [.int st.length,.fn (.func 69) [.ptr 0 0,.ptr 1 0]] fun hp' r=>hp' = [(0,lnB b0 st sz),(1,atB b1 a)]∧r = .int (cntN st a):=by
 have hcl:=clo_ok b0 b1 st sz a
 simp only [lnB,atB] at hcl ⊢
 refine MemC.of Tryz.func68 rfl 26 rfl (by decide) ?_;simp only [z08,frOf]
 repeat' (first|refine T.zk fun K hK=>?_|apply T.block|(refine T.reg (by kernel_rfl) fun K' hK'=>?_;simp only [bz];(with_reducible repeat' (first|(apply WL.fin;apply hK';clear hK' K')|(refine WL.step fun K2 hK2=>?_;simp only [simprocAttr,implies_true,amz,zf,tys];repeat' (first|(apply hK2;clear hK2 K2)|apply And.intro|intro hb)))))|apply T.skip|apply T.exit|refine T.zh rfl ?_|refine T.zg rfl ?_|refine T.cond rfl (fun hc=>?_) (fun hc=>?_)|apply T.ret|simp only [ze,z8,reduceIte,Nat.reduceEqDiff]|((repeat ((fail_if_success apply hK);clear hK K));apply hK;clear hK K))
 refine T.z02 (fun p:Nat × Nat=>⟨[(1,.fn (.func 69) [.ptr 0 0,.ptr 1 0]),(5,.int p.1),(6,.int p.2)],[(0,lnB b0 st sz),(1,atB b1 a)],26,2⟩) (fun p=>p.1≤cntN st a∧cntN st a≤p.2∧p.2≤st.length) (fun p=>p.2-p.1) (0,st.length) ⟨Nat.zero_le _,z6X st a,Nat.le_refl _⟩ (by refine zi.of' rfl ?_;simp only [wks,reduceIte,Nat.reduceEqDiff,ASt.okB,AV.okB,Nat.reduceLT,implies_true,Int.natCast_zero,AV.qm,List.all_cons,List.all_nil,lnB,atB,AO.zL]) ?_
 rintro ⟨i,j⟩ ⟨h1,h2,h3⟩ KL hKL
 simp only at h1 h2 h3 hKL ⊢
 by_cases hij:i<j
 case neg =>
  have hd:decide ((i:Int)<(j:Int))=false:=by simpa using hij
  have he:i=cntN st a:=by omega
  repeat' (first|refine T.zk fun K hK=>?_|apply T.block|(refine T.reg (by kernel_rfl) fun K' hK'=>?_;simp only [bz];(with_reducible repeat' (first|(apply WL.fin;apply hK';clear hK' K')|(refine WL.step fun K2 hK2=>?_;simp only [simprocAttr,implies_true,amz,zf,tys,hd];repeat' (first|(apply hK2;clear hK2 K2)|apply And.intro|intro hb)))))|apply T.skip|apply T.exit|refine T.zh rfl ?_|refine T.zg rfl ?_|refine T.cond rfl (fun hc=>?_) (fun hc=>?_)|apply T.ret|simp only [ze,z8,reduceIte,Nat.reduceEqDiff]|((repeat ((fail_if_success apply hK);clear hK K));apply hK;clear hK K))
  all_goals (refine FinM.ret (s':=⟨[(4,.int (i:Int))],[(0,lnB b0 st sz),(1,atB b1 a)],26,2⟩) (r := .int (i:Int)) (.inr rfl) Tryz.results68 (by refine zi.of' rfl ?_;simp only [wks,reduceIte,Nat.reduceEqDiff,ASt.okB,AV.okB,Nat.reduceLT,implies_true,lnB,atB]) rfl ?_ ?_;(focus (simp only [zI,zu,zw,simprocAttr,implies_true,amz,zf,tys,];done)))
  all_goals exact ⟨rfl,by rw [he]⟩
 have hd:decide ((i:Int)<(j:Int))=true:=by simpa using hij
 obtain ⟨h,hh⟩ : ∃ h,h=(i+j) / 2:=⟨_,rfl⟩
 have w1:IntKind.i64.wrap ((i:Int)+(j:Int))=((i+j:Nat):Int):=by rw [z15 (by omega) (by omega)];omega
 have w2:IntKind.u64.wrap (((i+j:Nat):Int))=((i+j:Nat):Int):=by
  have:((i+j:Nat):Int)<18446744073709551616:=by omega
  simp only [IntKind.wrap,IntKind.bits,IntKind.signed]
  simp
  omega
 have w3:(((i+j:Nat):Int)).fdiv 2=(h:Int):=by
  rw [Int.fdiv_eq_ediv_of_nonneg _ (by omega),hh]
  omega
 have w4:IntKind.i64.wrap (h:Int)=(h:Int):=z15 (by omega) (by omega)
 obtain ⟨x,hx⟩:=qA (l:=st) (k:=h) (by omega)
 have hcl:=hcl h x hx
 have hit:=z5s (a:=a) hs hx
 simp only [lnB,atB]
 by_cases hax:a<x
 ·have f1:decide (a<x)=true:=by simpa using hax
  rw [f1] at hcl
  repeat' (first|refine T.zk fun K hK=>?_|apply T.block|(refine T.reg (by kernel_rfl) fun K' hK'=>?_;simp only [bz];(repeat' (first|(with_reducible refine WL.fin ?_;apply hK';clear hK' K')|((with_reducible refine WL.step fun K2 hK2=>?_);simp only [simprocAttr,implies_true,amz,zf,tys,hd,w1,w2,w3,w4,Option.isSome_some,if_true,Bool.not_true];(repeat' (first|with_reducible (first|(apply hK2;clear hK2 K2)|apply And.intro|intro hb)|((with_reducible refine qg 2 _ _ [0,1] (Ent.of Tryz.func69 (by kernel_rfl) rfl) (hcl) ?_ ?_ ?_);(focus ((refine ⟨Nat.le_of_ble_eq_true rfl,?_,?_⟩ <;> simp only [pz,reduceIte,Nat.reduceEqDiff,AV.okB,Nat.reduceLT,AV.qm,List.all_cons,List.all_nil]);done));(focus (simp [AV.okB];done));rintro hp' r ⟨rfl,rfl⟩;refine ⟨by simp [Kept,zq,AO.handle],?_⟩;simp only [cz,ASt.qh,AO.keep,Nat.reduceLeDiff,reduceIte,Nat.reduceEqDiff,AV.qm,List.all_cons,List.all_nil])))))))|apply T.skip|apply T.exit|refine T.zh rfl ?_|refine T.zg rfl ?_|refine T.cond rfl (fun hc=>?_) (fun hc=>?_)|apply T.ret|simp only [ze,z8,reduceIte,Nat.reduceEqDiff]|((repeat ((fail_if_success apply hK);clear hK K));apply hK;clear hK K))
  refine hKL _ (i,h) (by refine zi.of' rfl ?_;simp only [wks,reduceIte,Nat.reduceEqDiff,ASt.okB,AV.okB,Nat.reduceLT,implies_true,AV.qm,List.all_cons,List.all_nil,lnB,atB,AO.zL]) ⟨h1,?_,?_⟩ ?_ <;> simp only [] <;> omega
 ·have f1:decide (a<x)=false:=by simpa using hax
  rw [f1] at hcl
  repeat' (first|refine T.zk fun K hK=>?_|apply T.block|(refine T.reg (by kernel_rfl) fun K' hK'=>?_;simp only [bz];(repeat' (first|(with_reducible refine WL.fin ?_;apply hK';clear hK' K')|((with_reducible refine WL.step fun K2 hK2=>?_);simp only [simprocAttr,implies_true,amz,zf,tys,hd,w1,w2,w3,w4,Option.isSome_some,if_true,Bool.not_false];(repeat' (first|with_reducible (first|(apply hK2;clear hK2 K2)|apply And.intro|intro hb)|((with_reducible refine qg 2 _ _ [0,1] (Ent.of Tryz.func69 (by kernel_rfl) rfl) (hcl) ?_ ?_ ?_);(focus ((refine ⟨Nat.le_of_ble_eq_true rfl,?_,?_⟩ <;> simp only [pz,reduceIte,Nat.reduceEqDiff,AV.okB,Nat.reduceLT,AV.qm,List.all_cons,List.all_nil]);done));(focus (simp [AV.okB];done));rintro hp' r ⟨rfl,rfl⟩;refine ⟨by simp [Kept,zq,AO.handle],?_⟩;simp only [cz,ASt.qh,AO.keep,Nat.reduceLeDiff,reduceIte,Nat.reduceEqDiff,AV.qm,List.all_cons,List.all_nil])))))))|apply T.skip|apply T.exit|refine T.zh rfl ?_|refine T.zg rfl ?_|refine T.cond rfl (fun hc=>?_) (fun hc=>?_)|apply T.ret|simp only [ze,z8,reduceIte,Nat.reduceEqDiff]|((repeat ((fail_if_success apply hK);clear hK K));apply hK;clear hK K))
  refine hKL _ (h+1,j) (by refine zi.of' rfl ?_;simp only [wks,reduceIte,Nat.reduceEqDiff,ASt.okB,AV.okB,Nat.reduceLT,implies_true,zx (show h<1152921504606846976 by omega),AV.qm,List.all_cons,List.all_nil,lnB,atB,AO.zL]) ⟨?_,h2,h3⟩ ?_ <;> simp only [] <;> omega
theorem cnt_pos {st:List Int} {a:Int} {r:List Int} (h:st=0 :: r) (h0 : 0≤a) : 0<cntN st a:=by
 subst h
 simp [cntN,List.takeWhile_cons,h0]
theorem posN_ok {st:List Int} {sz a:Int} (h:z1x st sz=true) (h0 : 0≤a) (h1:a≤sz) : ∃ x,0<cntN st a∧cntN st a≤st.length∧st[cntN st a-1]? = some x ∧ 0≤x∧x≤a∧a≤1099511627776∧posN st sz a=((cntN st a:Int),a-x+1,0):=by
 obtain ⟨r,hst,h2,h3,h4⟩:=z3R.1 h
 have hp:=cnt_pos hst h0
 have hle:=z6X st a
 obtain ⟨x,hx⟩:=qA (l:=st) (k:=cntN st a-1) (by omega)
 have hxa:=(z5s (a:=a) h3 hx).2 (by omega)
 have hx0 : 0≤x:=by
  by_cases e:cntN st a-1=0
  ·rw [e,hst] at hx;cases hx;omega
  ·have:=asc_lt h3 (cntN st a-2) 0 0 x (by rw [hst];rfl) (by rw [← hx];congr 1;omega)
   omega
 refine ⟨x,hp,hle,hx,hx0,hxa,by omega,?_⟩
 unfold posN
 rw [if_neg (by rw [h];simp),if_neg (by omega),hx]
 rfl
theorem z7q (st:List Int) (sz a:Int) (hl:st.length≤1000000):zt Tryz.prog 51 [lnA st sz,.int a] (poA (posN st sz a)):=by
 have hvd:=z5C st sz hl
 have hsl:=z0N st
 simp only [lnA,poA] at hvd ⊢
 cases hv:z1x st sz with
 | false =>
  have he:posN st sz a=(0,0,1):=by unfold posN;rw [if_pos hv]
  rw [hv] at hvd
  refine zt.of Tryz.func51 rfl 34 rfl (by decide) (by simp [AV.okB]) ?_
  repeat' (first|refine T.zk fun K hK=>?_|apply T.block|(refine T.reg (by kernel_rfl) fun K' hK'=>?_;simp only [bz];(repeat' (first|(with_reducible refine WL.fin ?_;apply hK';clear hK' K')|((with_reducible refine WL.step fun K2 hK2=>?_);simp only [simprocAttr,implies_true,amz,zf,tys];(repeat' (first|with_reducible (first|(apply hK2;clear hK2 K2)|apply And.intro|intro hb)|((with_reducible first|apply zl|apply zn);case h=>exact CallV.plain (Ent.of Tryz.func67 (by kernel_rfl) rfl) (hvd) (by simp [AV.okB]))))))))|apply T.skip|apply T.exit|refine T.zh rfl ?_|refine T.zg rfl ?_|refine T.cond rfl (fun hc=>?_) (fun hc=>?_)|apply T.ret|simp only [ze,z8,reduceIte,Nat.reduceEqDiff]|((repeat ((fail_if_success apply hK);clear hK K));apply hK;clear hK K))
  all_goals (refine zP.ret (.inr rfl) Tryz.results51 ?_;simp only [zI,zu,zw,simprocAttr,implies_true,amz,zf,tys,he])
 | true =>
 rw [hv] at hvd
 by_cases h0:a<0
 ·have f0:decide (a<0)=true:=by simpa using h0
  have he:posN st sz a=(0,0,2):=by unfold posN;rw [if_neg (by rw [hv];simp),if_pos (.inl h0)]
  refine zt.of Tryz.func51 rfl 34 rfl (by decide) (by simp [AV.okB]) ?_
  repeat' (first|refine T.zk fun K hK=>?_|apply T.block|(refine T.reg (by kernel_rfl) fun K' hK'=>?_;simp only [bz];(repeat' (first|(with_reducible refine WL.fin ?_;apply hK';clear hK' K')|((with_reducible refine WL.step fun K2 hK2=>?_);simp only [simprocAttr,implies_true,amz,zf,tys,f0];(repeat' (first|with_reducible (first|(apply hK2;clear hK2 K2)|apply And.intro|intro hb)|((with_reducible first|apply zl|apply zn);case h=>exact CallV.plain (Ent.of Tryz.func67 (by kernel_rfl) rfl) (hvd) (by simp [AV.okB]))))))))|apply T.skip|apply T.exit|refine T.zh rfl ?_|refine T.zg rfl ?_|refine T.cond rfl (fun hc=>?_) (fun hc=>?_)|apply T.ret|simp only [ze,z8,reduceIte,Nat.reduceEqDiff]|((repeat ((fail_if_success apply hK);clear hK K));apply hK;clear hK K))
  all_goals (refine zP.ret (.inr rfl) Tryz.results51 ?_;simp only [zI,zu,zw,simprocAttr,implies_true,amz,zf,tys,he])
 have f0:decide (a<0)=false:=by simpa using h0
 by_cases h1:sz<a
 ·have f1:decide (sz<a)=true:=by simpa using h1
  have he:posN st sz a=(0,0,2):=by unfold posN;rw [if_neg (by rw [hv];simp),if_pos (.inr h1)]
  refine zt.of Tryz.func51 rfl 34 rfl (by decide) (by simp [AV.okB]) ?_
  repeat' (first|refine T.zk fun K hK=>?_|apply T.block|(refine T.reg (by kernel_rfl) fun K' hK'=>?_;simp only [bz];(repeat' (first|(with_reducible refine WL.fin ?_;apply hK';clear hK' K')|((with_reducible refine WL.step fun K2 hK2=>?_);simp only [simprocAttr,implies_true,amz,zf,tys,f0,f1];(repeat' (first|with_reducible (first|(apply hK2;clear hK2 K2)|apply And.intro|intro hb)|((with_reducible first|apply zl|apply zn);case h=>exact CallV.plain (Ent.of Tryz.func67 (by kernel_rfl) rfl) (hvd) (by simp [AV.okB]))))))))|apply T.skip|apply T.exit|refine T.zh rfl ?_|refine T.zg rfl ?_|refine T.cond rfl (fun hc=>?_) (fun hc=>?_)|apply T.ret|simp only [ze,z8,reduceIte,Nat.reduceEqDiff]|((repeat ((fail_if_success apply hK);clear hK K));apply hK;clear hK K))
  all_goals (refine zP.ret (.inr rfl) Tryz.results51 ?_;simp only [zI,zu,zw,simprocAttr,implies_true,amz,zf,tys,he])
 have f1:decide (sz<a)=false:=by simpa using h1
 obtain ⟨x,c0,c1,hx,hx0,hxa,ha,he⟩:=posN_ok (a:=a) hv (by omega) (by omega)
 have hs:ascL st=true:=by obtain ⟨_,_,_,h,_⟩:=z3R.1 hv;exact h
 have mx:=z0J hx
 have hse:=fun b0 b1=>search_ok b0 b1 st sz a hs hl
 have w1:IntKind.i64.wrap ((cntN st a:Int)-1)=((cntN st a-1:Nat):Int):=by rw [z15 (by omega) (by omega)];omega
 have w2:IntKind.i64.wrap (a-x)=a-x:=z15 (by omega) (by omega)
 have w3:IntKind.i64.wrap (a-x+1)=a-x+1:=z15 (by omega) (by omega)
 have k0:(0≤((cntN st a-1:Nat):Int))=True:=eq_true (by omega)
 simp only [lnB,atB] at hse
 refine zt.of Tryz.func51 rfl 34 rfl (by decide) (by simp [AV.okB]) ?_
 repeat' (first|refine T.zk fun K hK=>?_|apply T.block|apply T.skip|apply T.exit|refine T.zh rfl ?_|refine T.zg rfl ?_|refine T.cond rfl (fun hc=>?_) (fun hc=>?_)|apply T.ret|simp only [ze,z8,reduceIte,Nat.reduceEqDiff]|((repeat ((fail_if_success apply hK);clear hK K));apply hK;clear hK K))
 (refine T.reg (by kernel_rfl) fun K' hK'=>?_;simp only [bz];(with_reducible repeat' (first|(apply WL.fin;apply hK';clear hK' K')|(refine WL.step fun K2 hK2=>?_;simp only [simprocAttr,implies_true,amz,zf,tys];repeat' (first|(apply hK2;clear hK2 K2)|apply And.intro|intro hb))));all_goals ((try simp only [ze,z8,reduceIte,Nat.reduceEqDiff]);(try ((repeat ((fail_if_success apply hK);clear hK K));apply hK;clear hK K))))
 refine T.pin 0 _ rfl fun b0=>?_;simp only [zO,AO.pin,yl,reduceIte,Nat.reduceEqDiff]
 refine T.pin 1 _ rfl fun b1=>?_;simp only [zO,AO.pin,yl,reduceIte,Nat.reduceEqDiff]
 repeat' (first|refine T.zk fun K hK=>?_|apply T.block|apply T.skip|apply T.exit|refine T.zh rfl ?_|refine T.zg rfl ?_|refine T.cond rfl (fun hc=>?_) (fun hc=>?_)|apply T.ret|simp only [ze,z8,reduceIte,Nat.reduceEqDiff]|((repeat ((fail_if_success apply hK);clear hK K));apply hK;clear hK K))
 (refine T.reg (by kernel_rfl) fun K' hK'=>?_;simp only [bz];(repeat' (first|(with_reducible refine WL.fin ?_;apply hK';clear hK' K')|((with_reducible refine WL.step fun K2 hK2=>?_);simp only [simprocAttr,implies_true,amz,zf,tys];(repeat' (first|with_reducible (first|(apply hK2;clear hK2 K2)|apply And.intro|intro hb)|((with_reducible first|apply zl|apply zn);case h=>exact CallV.plain (Ent.of Tryz.func67 (by kernel_rfl) rfl) (hvd) (by simp [AV.okB])))))));all_goals ((try simp only [ze,z8,reduceIte,Nat.reduceEqDiff]);(try ((repeat ((fail_if_success apply hK);clear hK K));apply hK;clear hK K))))
 repeat' (first|refine T.zk fun K hK=>?_|apply T.block|apply T.skip|apply T.exit|refine T.zh rfl ?_|refine T.zg rfl ?_|refine T.cond rfl (fun hc=>?_) (fun hc=>?_)|apply T.ret|simp only [ze,z8,reduceIte,Nat.reduceEqDiff]|((repeat ((fail_if_success apply hK);clear hK K));apply hK;clear hK K))
 (refine T.reg (by kernel_rfl) fun K' hK'=>?_;simp only [bz];(with_reducible repeat' (first|(apply WL.fin;apply hK';clear hK' K')|(refine WL.step fun K2 hK2=>?_;simp only [simprocAttr,implies_true,amz,zf,tys,f0,f1];repeat' (first|(apply hK2;clear hK2 K2)|apply And.intro|intro hb))));all_goals ((try simp only [ze,z8,reduceIte,Nat.reduceEqDiff]);(try ((repeat ((fail_if_success apply hK);clear hK K));apply hK;clear hK K))))
 repeat' (first|refine T.zk fun K hK=>?_|apply T.block|apply T.skip|apply T.exit|refine T.zh rfl ?_|refine T.zg rfl ?_|refine T.cond rfl (fun hc=>?_) (fun hc=>?_)|apply T.ret|simp only [ze,z8,reduceIte,Nat.reduceEqDiff]|((repeat ((fail_if_success apply hK);clear hK K));apply hK;clear hK K))
 have hse:=hse b0 b1
 refine T.weak (zi.hpe _ [(0,.boxP (some b0) 57 [.p (.seq 1 (rowZ st)),.int sz]),(1,.boxP (some b1) 3 [.int a])] (fun t=>by
  simp only [zq,qp]
  by_cases e0:t=0
  ·subst e0;rfl
  ·by_cases e1:t=1
   ·subst e1;rfl
   ·simp only [e0,e1,if_false])) ?_
 repeat' (first|refine T.zk fun K hK=>?_|apply T.block|(refine T.reg (by kernel_rfl) fun K' hK'=>?_;simp only [bz];(repeat' (first|(with_reducible refine WL.fin ?_;apply hK';clear hK' K')|((with_reducible refine WL.step fun K2 hK2=>?_);simp only [simprocAttr,implies_true,amz,zf,tys,hsl];(repeat' (first|with_reducible (first|(apply hK2;clear hK2 K2)|apply And.intro|intro hb)|((with_reducible refine qg 2 _ _ [0,1] (Ent.of Tryz.func68 (by kernel_rfl) rfl) (hse) ?_ ?_ ?_);(focus ((refine ⟨Nat.le_of_ble_eq_true rfl,?_,?_⟩ <;> simp only [pz,reduceIte,Nat.reduceEqDiff,AV.okB,Nat.reduceLT,AV.qm,List.all_cons,List.all_nil]);done));(focus (simp [AV.okB];done));rintro hp' r ⟨rfl,rfl⟩;refine ⟨by simp [Kept,zq,AO.handle],?_⟩;simp only [cz,ASt.qh,AO.keep,Nat.reduceLeDiff,reduceIte,Nat.reduceEqDiff,AV.qm,List.all_cons,List.all_nil])))))))|apply T.skip|apply T.exit|refine T.zh rfl ?_|refine T.zg rfl ?_|refine T.cond rfl (fun hc=>?_) (fun hc=>?_)|apply T.ret|simp only [ze,z8,reduceIte,Nat.reduceEqDiff]|((repeat ((fail_if_success apply hK);clear hK K));apply hK;clear hK K))
 refine T.drw 11 (by kernel_rfl) (by kernel_rfl) fun K' hK'=>?_;simp only [yl];(repeat' (first|(with_reducible refine WL.fin ?_;apply hK';clear hK' K')|(with_reducible refine WD.fin ?_)|((with_reducible first|refine WL.step fun K2 hK2=>?_|refine WD.step fun K2 hK2=>?_);simp only [simprocAttr,implies_true,amz,zf,tys,hsl,w1,w2,w3,k0,Int.toNat_natCast,mx];(repeat' with_reducible (first|(apply hK2;clear hK2 K2)|apply And.intro|intro hb)))));all_goals ((try simp only [ze,z8,reduceIte,Nat.reduceEqDiff]);(try ((repeat ((fail_if_success apply hK);clear hK K));apply hK;clear hK K)))
 all_goals repeat' (first|refine T.zk fun K hK=>?_|apply T.block|(refine T.reg (by kernel_rfl) fun K' hK'=>?_;simp only [bz];(with_reducible repeat' (first|(apply WL.fin;apply hK';clear hK' K')|(refine WL.step fun K2 hK2=>?_;simp only [simprocAttr,implies_true,amz,zf,tys];repeat' (first|(apply hK2;clear hK2 K2)|apply And.intro|intro hb)))))|apply T.skip|apply T.exit|refine T.zh rfl ?_|refine T.zg rfl ?_|refine T.cond rfl (fun hc=>?_) (fun hc=>?_)|apply T.ret|simp only [ze,z8,reduceIte,Nat.reduceEqDiff]|((repeat ((fail_if_success apply hK);clear hK K));apply hK;clear hK K))
 all_goals (refine zP.ret (.inr rfl) Tryz.results51 ?_;simp only [zI,zu,zw,simprocAttr,implies_true,amz,zf,tys,he])
structure In5 where
 op:Int
 a:Int
 b:Int
 c:Int
 at' : Int
structure Fu where
 name:ByteArray
 pa:Int
 re:Int
 code:List In5
def inC5 (i:In5):List PV := [.val (.int .i64 i.op),.val (.int .i64 i.a),.val (.int .i64 i.b),.val (.int .i64 i.c),.val (.int .i64 i.at')]
def fuC (f:Fu):List PV := [.val (.string f.name),.val (.int .i64 f.pa),.val (.int .i64 f.re),.seq 5 (f.code.map inC5)]
theorem in_at {l:List In5} {k:Nat} {i:In5} (h:l[k]? = some i):(l.map inC5)[k]? = some [.val (.int .i64 i.op),.val (.int .i64 i.a),.val (.int .i64 i.b),.val (.int .i64 i.c),.val (.int .i64 i.at')]:=by
 rw [List.getElem?_map,h];rfl
theorem fu_at {l:List Fu} {k:Nat} {f:Fu} (h:l[k]? = some f):(l.map fuC)[k]? = some [.val (.string f.name),.val (.int .i64 f.pa),.val (.int .i64 f.re),.seq 5 (f.code.map inC5)]:=by
 rw [List.getElem?_map,h];rfl
def pgA (fs:List Fu) (g y:PV) (mn:Int):AV := .agg [.p (.seq 4 (fs.map fuC)),.p g,.p y,.int mn]
def getZ {α:Type} (l:List α) (i:Int):Option α:=if i<0 then none else l[i.toNat]?
def z0d (fs:List Fu) (st:List Int) (sz:Int) (s:P2):Int:=match getZ fs s.1 with
 | none => 0
 | some f=>match getZ f.code s.2 with
  | none => 0
  | some i=>if (posN st sz i.at').2.2=0 then (posN st sz i.at').1 else 0
theorem z3g {α:Type} {l:List α} {i:Int} (h:i<0):getZ l i=none:=by simp [getZ,h]
theorem z4t {α:Type} {l:List α} {i:Int} (h:(l.length:Int)≤i):getZ l i=none:=by
 unfold getZ
 split
 ·rfl
 ·exact List.getElem?_eq_none (by omega)
theorem z4s {α:Type} {l:List α} {i:Int} (h0 : 0≤i) (h:i<(l.length:Int)) : ∃ x,getZ l i=some x∧l[i.toNat]? = some x:=by
 obtain ⟨x,hx⟩:=qA (l:=l) (k:=i.toNat) (by omega)
 exact ⟨x,by unfold getZ;rw [if_neg (by omega),hx],hx⟩
theorem z7i (fs:List Fu) (g y:PV) (mn:Int) (st:List Int) (sz:Int) (s:P2) (hl:st.length≤1000000):zt Tryz.prog 33 [pgA fs g y mn,lnA st sz,p2A s] (.int (z0d fs st sz s)):=by
 have hfl:(fs.map fuC).length=fs.length:=by simp
 simp only [pgA,lnA,p2A]
 by_cases h1:s.1<0
 ·have f1:decide (s.1<0)=true:=by simpa using h1
  have he:z0d fs st sz s=0:=by simp [z0d,z3g h1]
  refine zt.of Tryz.func33 rfl 60 rfl (by decide) (by simp [AV.okB]) ?_
  repeat' (first|refine T.zk fun K hK=>?_|apply T.block|(refine T.reg (by kernel_rfl) fun K' hK'=>?_;simp only [bz];(with_reducible repeat' (first|(apply WL.fin;apply hK';clear hK' K')|(refine WL.step fun K2 hK2=>?_;simp only [simprocAttr,implies_true,amz,zf,tys];repeat' (first|(apply hK2;clear hK2 K2)|apply And.intro|intro hb)))))|apply T.skip|apply T.exit|refine T.zh rfl ?_|refine T.zg rfl ?_|refine T.cond rfl (fun hc=>?_) (fun hc=>?_)|apply T.ret|simp only [ze,z8,reduceIte,Nat.reduceEqDiff]|((repeat ((fail_if_success apply hK);clear hK K));apply hK;clear hK K))
  refine T.drw 28 (by kernel_rfl) (by kernel_rfl) fun K' hK'=>?_;simp only [yl];(repeat' (first|(with_reducible refine WL.fin ?_;apply hK';clear hK' K')|(with_reducible refine WD.fin ?_)|((with_reducible first|refine WL.step fun K2 hK2=>?_|refine WD.step fun K2 hK2=>?_);simp only [simprocAttr,implies_true,amz,zf,tys,hfl,f1];(repeat' with_reducible (first|(apply hK2;clear hK2 K2)|apply And.intro|intro hb)))));all_goals ((try simp only [ze,z8,reduceIte,Nat.reduceEqDiff]);(try ((repeat ((fail_if_success apply hK);clear hK K));apply hK;clear hK K)))
  all_goals repeat' (first|refine T.zk fun K hK=>?_|apply T.block|(refine T.reg (by kernel_rfl) fun K' hK'=>?_;simp only [bz];(with_reducible repeat' (first|(apply WL.fin;apply hK';clear hK' K')|(refine WL.step fun K2 hK2=>?_;simp only [simprocAttr,implies_true,amz,zf,tys];repeat' (first|(apply hK2;clear hK2 K2)|apply And.intro|intro hb)))))|apply T.skip|apply T.exit|refine T.zh rfl ?_|refine T.zg rfl ?_|refine T.cond rfl (fun hc=>?_) (fun hc=>?_)|apply T.ret|simp only [ze,z8,reduceIte,Nat.reduceEqDiff]|((repeat ((fail_if_success apply hK);clear hK K));apply hK;clear hK K))
  all_goals (refine zP.ret (.inr rfl) Tryz.results33 ?_;simp only [zI,zu,zw,simprocAttr,implies_true,amz,zf,tys,he])
 have f1:decide (s.1<0)=false:=by simpa using h1
 by_cases h2:(fs.length:Int)≤s.1
 ·have f2:decide ((fs.length:Int)≤s.1)=true:=by simpa using h2
  have he:z0d fs st sz s=0:=by simp [z0d,z4t h2]
  refine zt.of Tryz.func33 rfl 60 rfl (by decide) (by simp [AV.okB]) ?_
  repeat' (first|refine T.zk fun K hK=>?_|apply T.block|(refine T.reg (by kernel_rfl) fun K' hK'=>?_;simp only [bz];(with_reducible repeat' (first|(apply WL.fin;apply hK';clear hK' K')|(refine WL.step fun K2 hK2=>?_;simp only [simprocAttr,implies_true,amz,zf,tys];repeat' (first|(apply hK2;clear hK2 K2)|apply And.intro|intro hb)))))|apply T.skip|apply T.exit|refine T.zh rfl ?_|refine T.zg rfl ?_|refine T.cond rfl (fun hc=>?_) (fun hc=>?_)|apply T.ret|simp only [ze,z8,reduceIte,Nat.reduceEqDiff]|((repeat ((fail_if_success apply hK);clear hK K));apply hK;clear hK K))
  refine T.drw 28 (by kernel_rfl) (by kernel_rfl) fun K' hK'=>?_;simp only [yl];(repeat' (first|(with_reducible refine WL.fin ?_;apply hK';clear hK' K')|(with_reducible refine WD.fin ?_)|((with_reducible first|refine WL.step fun K2 hK2=>?_|refine WD.step fun K2 hK2=>?_);simp only [simprocAttr,implies_true,amz,zf,tys,hfl,f1,f2];(repeat' with_reducible (first|(apply hK2;clear hK2 K2)|apply And.intro|intro hb)))));all_goals ((try simp only [ze,z8,reduceIte,Nat.reduceEqDiff]);(try ((repeat ((fail_if_success apply hK);clear hK K));apply hK;clear hK K)))
  all_goals repeat' (first|refine T.zk fun K hK=>?_|apply T.block|(refine T.reg (by kernel_rfl) fun K' hK'=>?_;simp only [bz];(with_reducible repeat' (first|(apply WL.fin;apply hK';clear hK' K')|(refine WL.step fun K2 hK2=>?_;simp only [simprocAttr,implies_true,amz,zf,tys];repeat' (first|(apply hK2;clear hK2 K2)|apply And.intro|intro hb)))))|apply T.skip|apply T.exit|refine T.zh rfl ?_|refine T.zg rfl ?_|refine T.cond rfl (fun hc=>?_) (fun hc=>?_)|apply T.ret|simp only [ze,z8,reduceIte,Nat.reduceEqDiff]|((repeat ((fail_if_success apply hK);clear hK K));apply hK;clear hK K))
  all_goals (refine zP.ret (.inr rfl) Tryz.results33 ?_;simp only [zI,zu,zw,simprocAttr,implies_true,amz,zf,tys,he])
 have f2:decide ((fs.length:Int)≤s.1)=false:=by simpa using h2
 obtain ⟨f,hf,hf2⟩:=z4s (l:=fs) (i:=s.1) (by omega) (by omega)
 have mf:=fu_at hf2
 have i1:(0≤s.1)=True:=eq_true (by omega)
 have hcl:(f.code.map inC5).length=f.code.length:=by simp
 by_cases h3:s.2<0
 ·have f3:decide (s.2<0)=true:=by simpa using h3
  have he:z0d fs st sz s=0:=by simp [z0d,hf,z3g h3]
  refine zt.of Tryz.func33 rfl 60 rfl (by decide) (by simp [AV.okB]) ?_
  repeat' (first|refine T.zk fun K hK=>?_|apply T.block|(refine T.reg (by kernel_rfl) fun K' hK'=>?_;simp only [bz];(with_reducible repeat' (first|(apply WL.fin;apply hK';clear hK' K')|(refine WL.step fun K2 hK2=>?_;simp only [simprocAttr,implies_true,amz,zf,tys];repeat' (first|(apply hK2;clear hK2 K2)|apply And.intro|intro hb)))))|apply T.skip|apply T.exit|refine T.zh rfl ?_|refine T.zg rfl ?_|refine T.cond rfl (fun hc=>?_) (fun hc=>?_)|apply T.ret|simp only [ze,z8,reduceIte,Nat.reduceEqDiff]|((repeat ((fail_if_success apply hK);clear hK K));apply hK;clear hK K))
  refine T.drw 28 (by kernel_rfl) (by kernel_rfl) fun K' hK'=>?_;simp only [yl];(repeat' (first|(with_reducible refine WL.fin ?_;apply hK';clear hK' K')|(with_reducible refine WD.fin ?_)|((with_reducible first|refine WL.step fun K2 hK2=>?_|refine WD.step fun K2 hK2=>?_);simp only [simprocAttr,implies_true,amz,zf,tys,hfl,f1,f2,f3];(repeat' with_reducible (first|(apply hK2;clear hK2 K2)|apply And.intro|intro hb)))));all_goals ((try simp only [ze,z8,reduceIte,Nat.reduceEqDiff]);(try ((repeat ((fail_if_success apply hK);clear hK K));apply hK;clear hK K)))
  all_goals repeat' (first|refine T.zk fun K hK=>?_|apply T.block|(refine T.reg (by kernel_rfl) fun K' hK'=>?_;simp only [bz];(with_reducible repeat' (first|(apply WL.fin;apply hK';clear hK' K')|(refine WL.step fun K2 hK2=>?_;simp only [simprocAttr,implies_true,amz,zf,tys];repeat' (first|(apply hK2;clear hK2 K2)|apply And.intro|intro hb)))))|apply T.skip|apply T.exit|refine T.zh rfl ?_|refine T.zg rfl ?_|refine T.cond rfl (fun hc=>?_) (fun hc=>?_)|apply T.ret|simp only [ze,z8,reduceIte,Nat.reduceEqDiff]|((repeat ((fail_if_success apply hK);clear hK K));apply hK;clear hK K))
  all_goals (refine zP.ret (.inr rfl) Tryz.results33 ?_;simp only [zI,zu,zw,simprocAttr,implies_true,amz,zf,tys,he])
 have f3:decide (s.2<0)=false:=by simpa using h3
 by_cases h4:(f.code.length:Int)≤s.2
 ·have f4:decide ((f.code.length:Int)≤s.2)=true:=by simpa using h4
  have he:z0d fs st sz s=0:=by simp [z0d,hf,z4t h4]
  refine zt.of Tryz.func33 rfl 60 rfl (by decide) (by simp [AV.okB]) ?_
  repeat' (first|refine T.zk fun K hK=>?_|apply T.block|(refine T.reg (by kernel_rfl) fun K' hK'=>?_;simp only [bz];(with_reducible repeat' (first|(apply WL.fin;apply hK';clear hK' K')|(refine WL.step fun K2 hK2=>?_;simp only [simprocAttr,implies_true,amz,zf,tys];repeat' (first|(apply hK2;clear hK2 K2)|apply And.intro|intro hb)))))|apply T.skip|apply T.exit|refine T.zh rfl ?_|refine T.zg rfl ?_|refine T.cond rfl (fun hc=>?_) (fun hc=>?_)|apply T.ret|simp only [ze,z8,reduceIte,Nat.reduceEqDiff]|((repeat ((fail_if_success apply hK);clear hK K));apply hK;clear hK K))
  refine T.drw 28 (by kernel_rfl) (by kernel_rfl) fun K' hK'=>?_;simp only [yl];(repeat' (first|(with_reducible refine WL.fin ?_;apply hK';clear hK' K')|(with_reducible refine WD.fin ?_)|((with_reducible first|refine WL.step fun K2 hK2=>?_|refine WD.step fun K2 hK2=>?_);simp only [simprocAttr,implies_true,amz,zf,tys,hfl,f1,f2,f3,f4,i1,mf,hcl];(repeat' with_reducible (first|(apply hK2;clear hK2 K2)|apply And.intro|intro hb)))));all_goals ((try simp only [ze,z8,reduceIte,Nat.reduceEqDiff]);(try ((repeat ((fail_if_success apply hK);clear hK K));apply hK;clear hK K)))
  all_goals repeat' (first|refine T.zk fun K hK=>?_|apply T.block|(refine T.reg (by kernel_rfl) fun K' hK'=>?_;simp only [bz];(with_reducible repeat' (first|(apply WL.fin;apply hK';clear hK' K')|(refine WL.step fun K2 hK2=>?_;simp only [simprocAttr,implies_true,amz,zf,tys];repeat' (first|(apply hK2;clear hK2 K2)|apply And.intro|intro hb)))))|apply T.skip|apply T.exit|refine T.zh rfl ?_|refine T.zg rfl ?_|refine T.cond rfl (fun hc=>?_) (fun hc=>?_)|apply T.ret|simp only [ze,z8,reduceIte,Nat.reduceEqDiff]|((repeat ((fail_if_success apply hK);clear hK K));apply hK;clear hK K))
  all_goals (refine zP.ret (.inr rfl) Tryz.results33 ?_;simp only [zI,zu,zw,simprocAttr,implies_true,amz,zf,tys,he])
 have f4:decide ((f.code.length:Int)≤s.2)=false:=by simpa using h4
 obtain ⟨n,hn,hn2⟩:=z4s (l:=f.code) (i:=s.2) (by omega) (by omega)
 have mn2:=in_at hn2
 have i2:(0≤s.2)=True:=eq_true (by omega)
 have hp:=z7q st sz n.at' hl
 simp only [lnA,poA] at hp
 have he:z0d fs st sz s=if (posN st sz n.at').2.2=0 then (posN st sz n.at').1 else 0:=by simp [z0d,hf,hn]
 by_cases h5:(posN st sz n.at').2.2=0
 ·have f5:((posN st sz n.at').2.2 != 0)=false:=by simpa using h5
  rw [if_pos h5] at he
  refine zt.of Tryz.func33 rfl 60 rfl (by decide) (by simp [AV.okB]) ?_
  repeat' (first|refine T.zk fun K hK=>?_|apply T.block|(refine T.reg (by kernel_rfl) fun K' hK'=>?_;simp only [bz];(with_reducible repeat' (first|(apply WL.fin;apply hK';clear hK' K')|(refine WL.step fun K2 hK2=>?_;simp only [simprocAttr,implies_true,amz,zf,tys];repeat' (first|(apply hK2;clear hK2 K2)|apply And.intro|intro hb)))))|apply T.skip|apply T.exit|refine T.zh rfl ?_|refine T.zg rfl ?_|refine T.cond rfl (fun hc=>?_) (fun hc=>?_)|apply T.ret|simp only [ze,z8,reduceIte,Nat.reduceEqDiff]|((repeat ((fail_if_success apply hK);clear hK K));apply hK;clear hK K))
  refine T.drw 28 (by kernel_rfl) (by kernel_rfl) fun K' hK'=>?_;simp only [yl];(repeat' (first|(with_reducible refine WL.fin ?_;apply hK';clear hK' K')|(with_reducible refine WD.fin ?_)|((with_reducible first|refine WL.step fun K2 hK2=>?_|refine WD.step fun K2 hK2=>?_);simp only [simprocAttr,implies_true,amz,zf,tys,hfl,f1,f2,f3,f4,i1,mf,hcl];(repeat' with_reducible (first|(apply hK2;clear hK2 K2)|apply And.intro|intro hb)))));all_goals ((try simp only [ze,z8,reduceIte,Nat.reduceEqDiff]);(try ((repeat ((fail_if_success apply hK);clear hK K));apply hK;clear hK K)))
  all_goals repeat' (first|refine T.zk fun K hK=>?_|apply T.block|(refine T.reg (by kernel_rfl) fun K' hK'=>?_;simp only [bz];(with_reducible repeat' (first|(apply WL.fin;apply hK';clear hK' K')|(refine WL.step fun K2 hK2=>?_;simp only [simprocAttr,implies_true,amz,zf,tys];repeat' (first|(apply hK2;clear hK2 K2)|apply And.intro|intro hb)))))|apply T.skip|apply T.exit|refine T.zh rfl ?_|refine T.zg rfl ?_|refine T.cond rfl (fun hc=>?_) (fun hc=>?_)|apply T.ret|simp only [ze,z8,reduceIte,Nat.reduceEqDiff]|((repeat ((fail_if_success apply hK);clear hK K));apply hK;clear hK K))
  refine T.drw 20 (by kernel_rfl) (by kernel_rfl) fun K' hK'=>?_;simp only [yl];(repeat' (first|(with_reducible refine WL.fin ?_;apply hK';clear hK' K')|(with_reducible refine WD.fin ?_)|((with_reducible first|refine WL.step fun K2 hK2=>?_|refine WD.step fun K2 hK2=>?_);simp only [simprocAttr,implies_true,amz,zf,tys,hfl,i1,i2,mf,mn2];(repeat' (first|with_reducible (first|(apply hK2;clear hK2 K2)|apply And.intro|intro hb)|((with_reducible first|apply zl|apply zn);case h=>exact CallV.plain (Ent.of Tryz.func51 (by kernel_rfl) rfl) (hp) (by simp [AV.okB])))))));all_goals ((try simp only [ze,z8,reduceIte,Nat.reduceEqDiff]);(try ((repeat ((fail_if_success apply hK);clear hK K));apply hK;clear hK K)))
  all_goals repeat' (first|refine T.zk fun K hK=>?_|apply T.block|(refine T.reg (by kernel_rfl) fun K' hK'=>?_;simp only [bz];(with_reducible repeat' (first|(apply WL.fin;apply hK';clear hK' K')|(refine WL.step fun K2 hK2=>?_;simp only [simprocAttr,implies_true,amz,zf,tys,f5];repeat' (first|(apply hK2;clear hK2 K2)|apply And.intro|intro hb)))))|apply T.skip|apply T.exit|refine T.zh rfl ?_|refine T.zg rfl ?_|refine T.cond rfl (fun hc=>?_) (fun hc=>?_)|apply T.ret|simp only [ze,z8,reduceIte,Nat.reduceEqDiff]|((repeat ((fail_if_success apply hK);clear hK K));apply hK;clear hK K))
  all_goals (refine zP.ret (.inr rfl) Tryz.results33 ?_;simp only [zI,zu,zw,simprocAttr,implies_true,amz,zf,tys,he])
 ·have f5:((posN st sz n.at').2.2 != 0)=true:=by simpa using h5
  rw [if_neg h5] at he
  refine zt.of Tryz.func33 rfl 60 rfl (by decide) (by simp [AV.okB]) ?_
  repeat' (first|refine T.zk fun K hK=>?_|apply T.block|(refine T.reg (by kernel_rfl) fun K' hK'=>?_;simp only [bz];(with_reducible repeat' (first|(apply WL.fin;apply hK';clear hK' K')|(refine WL.step fun K2 hK2=>?_;simp only [simprocAttr,implies_true,amz,zf,tys];repeat' (first|(apply hK2;clear hK2 K2)|apply And.intro|intro hb)))))|apply T.skip|apply T.exit|refine T.zh rfl ?_|refine T.zg rfl ?_|refine T.cond rfl (fun hc=>?_) (fun hc=>?_)|apply T.ret|simp only [ze,z8,reduceIte,Nat.reduceEqDiff]|((repeat ((fail_if_success apply hK);clear hK K));apply hK;clear hK K))
  refine T.drw 28 (by kernel_rfl) (by kernel_rfl) fun K' hK'=>?_;simp only [yl];(repeat' (first|(with_reducible refine WL.fin ?_;apply hK';clear hK' K')|(with_reducible refine WD.fin ?_)|((with_reducible first|refine WL.step fun K2 hK2=>?_|refine WD.step fun K2 hK2=>?_);simp only [simprocAttr,implies_true,amz,zf,tys,hfl,f1,f2,f3,f4,i1,mf,hcl];(repeat' with_reducible (first|(apply hK2;clear hK2 K2)|apply And.intro|intro hb)))));all_goals ((try simp only [ze,z8,reduceIte,Nat.reduceEqDiff]);(try ((repeat ((fail_if_success apply hK);clear hK K));apply hK;clear hK K)))
  all_goals repeat' (first|refine T.zk fun K hK=>?_|apply T.block|(refine T.reg (by kernel_rfl) fun K' hK'=>?_;simp only [bz];(with_reducible repeat' (first|(apply WL.fin;apply hK';clear hK' K')|(refine WL.step fun K2 hK2=>?_;simp only [simprocAttr,implies_true,amz,zf,tys];repeat' (first|(apply hK2;clear hK2 K2)|apply And.intro|intro hb)))))|apply T.skip|apply T.exit|refine T.zh rfl ?_|refine T.zg rfl ?_|refine T.cond rfl (fun hc=>?_) (fun hc=>?_)|apply T.ret|simp only [ze,z8,reduceIte,Nat.reduceEqDiff]|((repeat ((fail_if_success apply hK);clear hK K));apply hK;clear hK K))
  refine T.drw 20 (by kernel_rfl) (by kernel_rfl) fun K' hK'=>?_;simp only [yl];(repeat' (first|(with_reducible refine WL.fin ?_;apply hK';clear hK' K')|(with_reducible refine WD.fin ?_)|((with_reducible first|refine WL.step fun K2 hK2=>?_|refine WD.step fun K2 hK2=>?_);simp only [simprocAttr,implies_true,amz,zf,tys,hfl,i1,i2,mf,mn2];(repeat' (first|with_reducible (first|(apply hK2;clear hK2 K2)|apply And.intro|intro hb)|((with_reducible first|apply zl|apply zn);case h=>exact CallV.plain (Ent.of Tryz.func51 (by kernel_rfl) rfl) (hp) (by simp [AV.okB])))))));all_goals ((try simp only [ze,z8,reduceIte,Nat.reduceEqDiff]);(try ((repeat ((fail_if_success apply hK);clear hK K));apply hK;clear hK K)))
  all_goals repeat' (first|refine T.zk fun K hK=>?_|apply T.block|(refine T.reg (by kernel_rfl) fun K' hK'=>?_;simp only [bz];(with_reducible repeat' (first|(apply WL.fin;apply hK';clear hK' K')|(refine WL.step fun K2 hK2=>?_;simp only [simprocAttr,implies_true,amz,zf,tys,f5];repeat' (first|(apply hK2;clear hK2 K2)|apply And.intro|intro hb)))))|apply T.skip|apply T.exit|refine T.zh rfl ?_|refine T.zg rfl ?_|refine T.cond rfl (fun hc=>?_) (fun hc=>?_)|apply T.ret|simp only [ze,z8,reduceIte,Nat.reduceEqDiff]|((repeat ((fail_if_success apply hK);clear hK K));apply hK;clear hK K))
  all_goals (refine zP.ret (.inr rfl) Tryz.results33 ?_;simp only [zI,zu,zw,simprocAttr,implies_true,amz,zf,tys,he])
abbrev AV.str (b:ByteArray):AV := .p (.val (.string b))
def D10 (u:Nat):ByteArray:=⟨(Go.Lib.decDigits u).toArray⟩
theorem D10_data (u:Nat):(D10 u).data.toList=Go.Lib.decDigits u:=rfl
theorem D10_size (u:Nat):(D10 u).size=Go.Lib.nDigits u:=by simp [D10,ByteArray.size,Go.Lib.decDigits_length]
theorem D10_le (u:Nat) (h:u<18446744073709551616):(D10 u).size≤20:=by rw [D10_size];exact Go.Lib.nDigits_le20 u h
theorem z6f {a b:ByteArray} (h:a.data.toList=b.data.toList):a=b:=by
 cases a;cases b
 simp only at h
 rw [ByteArray.mk.injEq]
 exact Array.toList_inj.1 h
theorem z1V (a b:ByteArray):(a++b).data.toList=a.data.toList++b.data.toList:=by
 rw [ByteArray.data_append,Array.toList_append]
def dI (x:Int):ByteArray:=⟨(Go.Lib.itoa x).toArray⟩
theorem dI_pos {x:Int} (h : 0≤x):dI x=D10 x.toNat:=by
 unfold dI Go.Lib.itoa D10
 rw [if_neg (by omega)]
theorem dI_neg {x:Int} (h:x<0):dI x=⟨#[45]⟩++D10 x.natAbs:=by
 apply z6f
 rw [z1V]
 unfold dI Go.Lib.itoa D10
 rw [if_pos h]
 rfl
theorem z4V {x:Int} (h0 : -9223372036854775808≤x) (h1:x<9223372036854775808):(dI x).size≤21:=by
 by_cases h:x<0
 ·rw [dI_neg h,ByteArray.size_append]
  have:=D10_le x.natAbs (by omega)
  have e:(⟨#[45]⟩ : ByteArray).size=1:=rfl
  omega
 ·rw [dI_pos (by omega)]
  have:=D10_le x.toNat (by omega)
  omega
def nmN (fs:List Fu) (s:P2):ByteArray:=match getZ fs s.1 with
 | some f=>f.name
 | none=>⟨#[63]⟩
def z7y (k:Int):ByteArray:=if k=1 then ⟨#[114,101,97,100]⟩ else if k=2 then ⟨#[119,114,105,116,101]⟩ else ⟨#[63]⟩
def entN (fs:List Fu) (st:List Int) (sz:Int) (s:P2):ByteArray:=(((⟨#[32,32,32,32]⟩++nmN fs s)++⟨#[58]⟩)++dI (z0d fs st sz s))++⟨#[10]⟩
def hdN (k:Int):ByteArray:=(⟨#[32,32]⟩++z7y k)++⟨#[10]⟩
def putN (fs:List Fu) (st:List Int) (sz:Int) (l:List P2) (b:ByteArray):ByteArray:=l.foldl (fun b s=>b++entN fs st sz s) b
def accN (fs:List Fu) (st:List Int) (sz:Int) (k:Int) (l:List P2):ByteArray:=putN fs st sz l.reverse (hdN k)
def hedN (r:Rep):ByteArray:=(((((⟨#[114,97,99,101,32]⟩++dI r.obj)++⟨#[46]⟩)++dI r.off)++⟨#[32]⟩)++dI r.cnt)++⟨#[10]⟩
def txtN (fs:List Fu) (st:List Int) (sz:Int) (r:Rep):ByteArray:=(hedN r++accN fs st sz r.k1 r.s1)++accN fs st sz r.k2 r.s2
theorem ba_assoc (a b c:ByteArray):(a++b)++c=a++(b++c):=by apply z6f;rw [z1V,z1V,z1V,z1V,List.append_assoc]
def NmOk (fs:List Fu):Prop := ∀ f ∈ fs,f.name.size≤1048576
theorem z81 {fs:List Fu} (h:NmOk fs) (s:P2):(nmN fs s).size≤1048576:=by
 unfold nmN getZ
 split
 ·rename_i f hf
  split at hf
  ·cases hf
  ·exact h f (List.mem_of_getElem? hf)
 ·show 1≤_;omega
theorem z2q (fs:List Fu) (st:List Int) (sz:Int) (s:P2) (hl:st.length≤1000000) : 0≤z0d fs st sz s∧z0d fs st sz s≤1000000:=by
 unfold z0d
 split
 ·omega
 ·split
  ·omega
  ·split
   ·unfold posN
    split
    ·simp only [];omega
    ·split
     ·simp only [];omega
     ·simp only []
      rename_i i _ _ _ _
      have:=z6X st i.at'
      omega
   ·omega
theorem z7L {fs:List Fu} (h:NmOk fs) (st:List Int) (sz:Int) (s:P2) (hl:st.length≤1000000):(entN fs st sz s).size≤1048700:=by
 have h1:=z81 h s
 obtain ⟨h2,h3⟩:=z2q fs st sz s hl
 have h4:=z4V (x:=z0d fs st sz s) (by omega) (by omega)
 unfold entN
 rw [ByteArray.size_append,ByteArray.size_append,ByteArray.size_append,ByteArray.size_append]
 have e1:(⟨#[32,32,32,32]⟩ : ByteArray).size=4:=rfl
 have e2:(⟨#[58]⟩ : ByteArray).size=1:=rfl
 have e3:(⟨#[10]⟩ : ByteArray).size=1:=rfl
 omega
theorem put_le {fs:List Fu} (h:NmOk fs) (st:List Int) (sz:Int) (hl:st.length≤1000000) : ∀ (l:List P2) (b:ByteArray),(putN fs st sz l b).size≤b.size+l.length*1048700
 | [],b=>by simp [putN]
 | s :: r,b=>by
  have h1:=put_le h st sz hl r (b++entN fs st sz s)
  have h2:=z7L h st sz s hl
  rw [ByteArray.size_append] at h1
  show (putN fs st sz r (b++entN fs st sz s)).size≤_
  rw [List.length_cons,Nat.add_mul]
  omega
theorem hd_le (k:Int):(hdN k).size≤20:=by
 unfold hdN z7y
 split
 ·decide
 ·split <;> decide
theorem acc_le {fs:List Fu} (h:NmOk fs) (st:List Int) (sz:Int) (hl:st.length≤1000000) (k:Int) (l:List P2):(accN fs st sz k l).size≤20+l.length*1048700:=by
 have h1:=put_le h st sz hl l.reverse (hdN k)
 have h2:=hd_le k
 rw [List.length_reverse] at h1
 unfold accN
 omega
theorem put_app (fs:List Fu) (st:List Int) (sz:Int) (a b:List P2) (x:ByteArray):putN fs st sz (a++b) x=putN fs st sz b (putN fs st sz a x):=by simp [putN]
theorem put_out (fs:List Fu) (st:List Int) (sz:Int) : ∀ (l:List P2) (x y:ByteArray),putN fs st sz l (x++y)=x++putN fs st sz l y
 | [],x,y=>rfl
 | s :: r,x,y=>by
  show putN fs st sz r ((x++y)++entN fs st sz s)=x++putN fs st sz r (y++entN fs st sz s)
  rw [ba_assoc,put_out fs st sz r]
theorem rev_step {l:List P2} {q:Nat} {s:P2} (h:l[q]? = some s):(l.drop q).reverse=(l.drop (q+1)).reverse ++ [s]:=by
 rw [drop_at h,List.reverse_cons]
structure RepW (r:Rep):Prop where
 obj : -9223372036854775808≤r.obj∧r.obj<9223372036854775808
 off : -9223372036854775808≤r.off∧r.off<9223372036854775808
 cnt : -9223372036854775808≤r.cnt∧r.cnt<9223372036854775808
theorem hd1:(⟨#[32,32,114,101,97,100,10]⟩ : ByteArray)=hdN 1:=rfl
theorem hd2:(⟨#[32,32,119,114,105,116,101,10]⟩ : ByteArray)=hdN 2:=rfl
theorem hd3 {k:Int} (h1:k ≠ 1) (h2:k ≠ 2):(⟨#[32,32,63,10]⟩ : ByteArray)=hdN k:=by
 unfold hdN z7y
 rw [if_neg h1,if_neg h2]
 rfl
end Go.Proofs.YtbkkginjfnjffaaGreatDoor
namespace Go.Proofs
open Go.Shelf Go.RowKit
def YtbkkginjfnjffaaGreatDoor.itoaL_ren:Go.Shelf.Ren:=⟨fun | 171 => 29 | 243 => 48 | 246 => 65 | 283 => 85 | 284 => 86 | 285 => 87 | 286 => 88 | 129 => 84 | 317 => 102 | 318 => 103 | 319 => 104 | 320 => 105 | 337 => 107 | 338 => 108|n=>n,fun | 3 => 3 | 9 => 9 | 2 => 2 | 4 => 4 | 171 => 159 | 0 => 0 | 53 => 158 | 37 => 92 | 5 => 5 | 173 => 161 | 212 => 186 | 51 => 156 | 20 => 20 | 213 => 187 | 46 => 141 | 232 => 191 | 233 => 192|n=>n,fun | 17 => 0 | 18 => 1 | 19 => 2|n=>n⟩
theorem YtbkkginjfnjffaaGreatDoor.itoaL:Go.Proofs.LaysM.n171 Tryz.prog YtbkkginjfnjffaaGreatDoor.itoaL_ren := {
 mixed:=by kernel_rfl
 f129:=Tryz.func84.trans (congrArg some (by kernel_rfl))
 f171:=Tryz.func29.trans (congrArg some (by kernel_rfl))
 f243:=Tryz.func48.trans (congrArg some (by kernel_rfl))
 f246:=Tryz.func65.trans (congrArg some (by kernel_rfl))
 f283:=Tryz.func85.trans (congrArg some (by kernel_rfl))
 f284:=Tryz.func86.trans (congrArg some (by kernel_rfl))
 f285:=Tryz.func87.trans (congrArg some (by kernel_rfl))
 f286:=Tryz.func88.trans (congrArg some (by kernel_rfl))
 f317:=Tryz.func102.trans (congrArg some (by kernel_rfl))
 f318:=Tryz.func103.trans (congrArg some (by kernel_rfl))
 f319:=Tryz.func104.trans (congrArg some (by kernel_rfl))
 f320:=Tryz.func105.trans (congrArg some (by kernel_rfl))
 f337:=Tryz.func107.trans (congrArg some (by kernel_rfl))
 f338:=Tryz.func108.trans (congrArg some (by kernel_rfl))
 t0:=Tryz.underlying0
 a0:=Tryz.isAgg0
 z0:=Tryz.sizeOf0
 v0:=Tryz.zeroValue0
 t2:=Tryz.underlying2
 a2:=Tryz.isAgg2
 z2:=Tryz.sizeOf2
 v2:=Tryz.zeroValue2
 t3:=Tryz.underlying3
 a3:=Tryz.isAgg3
 z3:=Tryz.sizeOf3
 v3:=Tryz.zeroValue3
 t4:=Tryz.underlying4
 a4:=Tryz.isAgg4
 z4:=Tryz.sizeOf4
 v4:=Tryz.zeroValue4
 t5:=Tryz.underlying5
 a5:=Tryz.isAgg5
 z5:=Tryz.sizeOf5
 v5:=Tryz.zeroValue5
 t9:=Tryz.underlying9
 a9:=Tryz.isAgg9
 z9:=Tryz.sizeOf9
 v9:=Tryz.zeroValue9
 t20:=Tryz.underlying20
 a20:=Tryz.isAgg20
 z20:=Tryz.sizeOf20
 v20:=Tryz.zeroValue20
 t37:=Tryz.underlying92
 a37:=Tryz.isAgg92
 z37:=Tryz.sizeOf92
 v37:=Tryz.zeroValue92
 t46:=Tryz.underlying141
 a46:=Tryz.isAgg141
 z46:=Tryz.sizeOf141
 v46:=Tryz.zeroValue141
 t51:=Tryz.underlying156
 a51:=Tryz.isAgg156
 z51:=Tryz.sizeOf156
 v51:=Tryz.zeroValue156
 t53:=Tryz.underlying158
 a53:=Tryz.isAgg158
 z53:=Tryz.sizeOf158
 v53:=Tryz.zeroValue158
 t171:=Tryz.underlying159
 a171:=Tryz.isAgg159
 z171:=Tryz.sizeOf159
 v171:=Tryz.zeroValue159
 t173:=Tryz.underlying161
 a173:=Tryz.isAgg161
 z173:=Tryz.sizeOf161
 v173:=Tryz.zeroValue161
 t212:=Tryz.underlying186
 a212:=Tryz.isAgg186
 z212:=Tryz.sizeOf186
 v212:=Tryz.zeroValue186
 t213:=Tryz.underlying187
 a213:=Tryz.isAgg187
 z213:=Tryz.sizeOf187
 t232:=Tryz.underlying191
 a232:=Tryz.isAgg191
 z232:=Tryz.sizeOf191
 v232:=Tryz.zeroValue191
 t233:=Tryz.underlying192
 a233:=Tryz.isAgg192
 z233:=Tryz.sizeOf192
 v233:=Tryz.zeroValue192
 g17:=by kernel_rfl
 g18:=by kernel_rfl
 g19:=by kernel_rfl
 i0:=by kernel_rfl
 i2:=by kernel_rfl
 i3:=by kernel_rfl
 i4:=by kernel_rfl
 i5:=by kernel_rfl
 i9:=by kernel_rfl
 i20:=by kernel_rfl
 i37:=by kernel_rfl
 i46:=by kernel_rfl
 i51:=by kernel_rfl
 i53:=by kernel_rfl
 i171:=by kernel_rfl
 i173:=by kernel_rfl
 i212:=by kernel_rfl
 i232:=by kernel_rfl
 i233:=by kernel_rfl
 m17:=by kernel_rfl
 m18:=by kernel_rfl
 m19:=by kernel_rfl }
end Go.Proofs
namespace Go.Proofs.YtbkkginjfnjffaaGreatDoor
open Go.RowKit Go.Sort Go.Shelf
def z0c (l:List Value):List AV:=l.map fun v => .p (.val v)
def z3T:List Value:=Go.Lib.pow10Tab.map fun z => .int .u64 z
def hpG:Hp := [(1000000,.boxP (some 0) 186 (z0c z3T))]
theorem z3j:Plain hpG:=fun t o h=>by
 unfold hpG at h
 rw [zq,qp] at h
 split at h
 ·cases h;exact ⟨_,_,_,rfl⟩
 ·cases h
theorem zH (us:List Value) (n:Nat):(z0c us).all (AV.okB n)=true:=by
 simp [z0c,AV.okB]
theorem z2P {s:ASt} {N:Nat} (hN : 1000000<N) (h : ∀ t o,hpG.lookup t=some o→s.hp.lookup t=some o):z8u s N hpG:=fun t o ho=>⟨h t o ho,by
 obtain ⟨p,ty,us,rfl⟩:=z3j t o ho
 exact zH us 0,by
 unfold hpG at ho
 rw [zq,qp] at ho
 split at ho
 ·omega
 ·cases ho⟩
theorem z7p {L:Nat→Prop} {N:Nat} {hp:Hp} {loc:Nat→Option Value} {w:World} (h:HRel L N hp loc w) {t g:Nat} {ty:TypeId} {us:List Value} (ho:hp.lookup t=some (.boxP (some g) ty (z0c us))):w.heap[g]? = some (.cells us.toArray ty (0,0)):=by
 obtain ⟨_,u,_,b,arr,rfl,g2,g3,g4,_,g5⟩:=h.at' t _ ho
 obtain rfl:=g5 g rfl
 rw [g2]
 have:arr=us.toArray:=by
  apply Array.ext
  ·rw [g3];simp [z0c]
  ·intro j j1 j2
   have hj:j<us.length:=by simpa using j2
   have e1:=(g4 j (.p (.val us[j])) (by simp [z0c,hj])).val
   rw [Array.getD_eq_getD_getElem?,Array.getElem?_eq_getElem j1] at e1
   simp only [Option.getD_some] at e1
   rw [e1]
   simp
 rw [this]
theorem grow_blw (w:World) (k:Nat) (os:Array Obj):Blw w.heap.size w (grow (w.drewN k) os) :=
 ⟨⟨rfl,rfl,rfl,by simp [grow,World.drewN],fun j hj=>by simp [grow,World.drewN,Array.getElem?_append,hj]⟩⟩
theorem z8G {x : Int} (h0 : -9223372036854775808 ≤ x) (h1 : x < 9223372036854775808) : z4k Tryz.prog 29 1000001 hpG [.int x] (.string (dI x)) := fun L loc w vs hh hvs => by
  obtain ⟨v, rfl⟩ : ∃ v, vs = [v] := by
    match vs, hvs.1 with
    | [v], _ => exact ⟨v, rfl⟩
  obtain rfl := (hvs.2 0 _ v rfl rfl).val
  have htab : Go.Lib.TabIs Tryz.prog w "internal/strconv.uint64pow10" .u64 Go.Lib.pow10Tab := by
    unfold Go.Lib.TabIs World.var?
    rw [show Tryz.prog.globalNamed "internal/strconv.uint64pow10" = some 0 by kernel_rfl]
    simp only [Option.bind_some]
    rw [z7p hh (t := 1000000) (g := 0) rfl]
    rfl
  refine Calls.mono (Any.strconv_Itoa itoaL x h0 (by omega) w htab) ?_
  rintro e w' ⟨rfl, k, os, rfl⟩
  exact ⟨rfl, grow_blw w k os⟩
theorem szB:(Tryz.prog.info? 94).map (·.size)=some 2:=by kernel_rfl
theorem liB:liesAt Tryz.prog Tryz.prog.depth 94 (2 / Tryz.prog.cellsOf 94) 0 94 1=true:=by kernel_rfl
theorem uPB:Tryz.prog.underlying 91=some (.pointer 94):=by kernel_rfl
theorem uUP:Tryz.prog.underlying 144=some .unsafePointer:=by kernel_rfl
theorem cc_used (b:Nat) (w:World) (h0:w.cell? ⟨b,0,none⟩=some (.pointer (some ⟨b,0,none⟩))) :
  Calls Tryz.prog 49 #[.pointer (some ⟨b,0,none⟩)] w fun e w'=>e = .returned (.tuple #[])∧w' = w:=by
 obtain ⟨j,hj,_⟩:=Option.map_eq_some_iff.1 szB
 go_enter Tryz.func49,Tryz.ntmps49
 go_wp2
 rw [Go.Lib.run_neq_ptr_same w _ uPB hj]
 go_wp2
 go_end0
 exact ⟨rfl,rfl⟩
theorem cc_fresh (b:Nat) (w:World) (h0:w.cell? ⟨b,0,none⟩=some (.pointer none)) (hsh:w.shape? b=some (94,2)) (hfz:w.frozen? ⟨b,0,none⟩=false) :
  Calls Tryz.prog 49 #[.pointer (some ⟨b,0,none⟩)] w fun e w'=>e = .returned (.tuple #[])∧w' = w.setCell ⟨b,0,none⟩ (.pointer (some ⟨b,0,none⟩)):=by
 obtain ⟨j,hj,hjs⟩:=Option.map_eq_some_iff.1 szB
 go_enter Tryz.func49,Tryz.ntmps49
 go_wp2
 rw [Go.Lib.run_to_unsafe w ⟨b,0,none⟩ uPB uUP hj (by rw [hjs];decide) hsh (Nat.zero_lt_succ 1)]
 simp only [Result.andThen]
 rw [Oper.upon_value]
 go_wp2
 rw [run_callFunc_extern Tryz.func66 (by kernel_rfl) (by kernel_rfl) (by kernel_rfl) (e:=Extern.AbiNoEscape.same) (by kernel_rfl)]
 rw [Go.Lib.run_noEscape]
 simp only [Result.andThen]
 rw [Oper.upon_value]
 go_wp2
 rw [Go.Lib.run_from_unsafe w ⟨b,0,none⟩ uUP uPB hj hsh liB]
 simp only [Result.andThen]
 rw [Oper.upon_value]
 go_wp2
 go_end0
 exact ⟨rfl,rfl⟩
def hpB (q:Nat) (x:AV) (bs:List UInt8):Hp := [(0,.boxP (some q) 94 [x,.own 1]),(1,.row 5 1 (z0t bs))]
theorem z6h (bs:List UInt8):(z0t bs).length=bs.length:=by simp [z0t]
theorem z7P {L:Nat→Prop} {N:Nat} {loc:Nat→Option Value} {w:World} {x:AV} {bs:List UInt8} {q:Nat} (hh:HRel L N (hpB q x bs) loc w) : ∃ p v,loc 0=some (.pointer (some ⟨q,0,none⟩))∧w.heap[q]? = some (.cells #[p,v] 94 (0,0))∧AR N (Dm L loc) loc w x p∧loc 1=some v∧p.oneCell' = true ∧
  w.ownsRow 0 5 1 v bs.length (Go.Lib.byteCells bs):=by
 obtain ⟨h1,u,h2,b,arr,rfl,h3,h4,h5,h6,h7⟩:=hh.at' 0 _ rfl
 obtain rfl:=h7 q rfl
 obtain ⟨k1,v,k2,flat,k3,k4,k5,k6⟩:=hh.at' 1 _ rfl
 obtain ⟨p,v',rfl⟩ : ∃ p v',arr = #[p,v']:=by
  match arr,h4 with
  | ⟨[p,v']⟩,_=>exact ⟨p,v',rfl⟩
 have a0:=h5 0 x rfl
 have a1:=h5 1 (.own 1) rfl
 have c0:=h6 0 (by simp)
 simp only [Array.getD_eq_getD_getElem?] at a0 a1 c0
 cases a1 with
 | own _ _ _ _ hv =>
 have e:v' = v:=hv v k2
 refine ⟨p,v,h2,by rw [h3,show v' = v from e],a0,k2,c0,?_⟩
 rw [z6h] at k3
 have hf:flat=Go.Lib.byteCells bs:=by
  apply List.ext_getElem?
  intro j
  by_cases hj:j<bs.length
  ·have hr:(z0t bs)[j]? = some [.val (.int .u8 (bs[j]).toNat)]:=by simp [z0t,hj]
   obtain ⟨z,z1,z2⟩:=k5 j _ 0 _ hr rfl
   have:=(AR.p (N := 0) (loc:=z2A) _ _ z2).val
   rw [this,Nat.mul_one,Nat.add_zero] at z1
   rw [z1]
   simp [Go.Lib.byteCells,hj]
  ·have e1:flat.length=bs.length:=by rw [k3.1,Nat.mul_one]
   rw [List.getElem?_eq_none (by omega),List.getElem?_eq_none (by simp [Go.Lib.byteCells];omega)]
 rw [← hf]
 exact k3
theorem z92 (w:World) (b j:Nat) (v:Value):Kp (fun k=>k=b) w (w.setCell ⟨b,j,none⟩ v) :=
 ⟨rfl,rfl,rfl,by simp [World.setCell],fun k _ hk=>Below.heap_setCell _ _ _ _ (fun e=>hk (by simpa using e))⟩
theorem z8A (b:Nat) (x:AV) (bs:List UInt8) (hx:x = .p (.val (.pointer none))∨x = .ptr 0 0):MemC Tryz.prog 49 2 (hpB b x bs) [.ptr 0 0] fun hp' r=>hp' = hpB b (.ptr 0 0) bs∧r = .tup []:=fun L loc w vs hh hvs=>by
 obtain ⟨v0,rfl⟩ : ∃ v0,vs = [v0]:=by
  match vs,hvs.1 with
  | [v0],_=>exact ⟨v0,rfl⟩
 obtain ⟨p,v,l0,hbk,hp,l1,hp1,hown⟩:=z7P hh
 have h0:=hvs.2 0 _ v0 rfl rfl
 cases h0 with
 | ptr _ _ _ _ _ hv =>
 obtain rfl:=hv b l0
 have t0:AR 2 (Dm L loc) loc w (.tup []) (.tuple #[]) := .tup [] #[] rfl (fun j x hx=>by simp at hx)
 have box : ∀ (w' : World),w'.heap[b]? = some (.cells #[.pointer (some ⟨b,0,none⟩),v] 94 (0,0))→Kp (fun k=>k=b) w w' → HRel L 2 (hpB b (.ptr 0 0) bs) loc w':=fun w' hb' hk =>
  hh.turn (t := 0) rfl l0 rfl hk ⟨b,_,rfl,hb',rfl,fun j y hy=>by
   match j,hy with
   | 0,hy=>cases hy;exact .ptr 0 0 _ (by omega) rfl fun b' hb2=>by rw [l0] at hb2;cases hb2;rfl
   | 1,hy=>cases hy;exact .own 1 _ (by omega) (by rcases hown.2 with ⟨rfl,_⟩|⟨_,_,_,rfl,_⟩ <;> rfl) fun u hu=>by rw [l1] at hu;cases hu;rfl,
   fun j hj=>by
    match j,hj with
    | 0,_=>rfl
    | 1,_=>rcases hown.2 with ⟨rfl,_⟩|⟨_,_,_,rfl,_⟩ <;> rfl,fun p e=>by cases e;rfl⟩
 rcases hx with rfl|rfl
 ·obtain rfl:=hp.val
  refine Calls.mono (cc_fresh b w (by simp [World.cell?,hbk]) (by simp [World.shape?,hbk]) (by simp [World.frozen?,hbk])) ?_
  rintro e w' ⟨rfl,rfl⟩
  have hk:=z92 w b 0 (.pointer (some ⟨b,0,none⟩))
  have hb' : (w.setCell ⟨b,0,none⟩ (.pointer (some ⟨b,0,none⟩))).heap[b]? = some (.cells #[.pointer (some ⟨b,0,none⟩),v] 94 (0,0)):=by simp [World.setCell,Array.getElem?_modify,hbk]
  exact ⟨_,loc,_,_,rfl,⟨rfl,rfl⟩,box _ hb' hk,.tup [] #[] rfl (fun j x hx=>by simp at hx),.turn l0 rfl hk⟩
 ·cases hp with
  | ptr _ _ _ _ _ hv' =>
  obtain rfl:=hv' b l0
  refine Calls.mono (cc_used b w (by simp [World.cell?,hbk])) ?_
  rintro e w' ⟨rfl,rfl⟩
  exact ⟨_,loc,_,_,rfl,⟨rfl,rfl⟩,hh,t0,Ext.refl _ _⟩
theorem sl9:isSl Tryz.prog 9=false:=by kernel_rfl
theorem cv_nil:cv .nilIface = .p (.val .nilIface):=rfl
theorem appS36:appS Tryz.prog 92 9=some 5:=by kernel_rfl
theorem z4T (q:Nat) (x:AV) (bs:List UInt8) (s:ByteArray) (hx:x = .p (.val (.pointer none))∨x = .ptr 0 0) (hl:bs.length+s.size≤140737488355328) :
  MemC Tryz.prog 30 2 (hpB q x bs) [.ptr 0 0,.str s] fun hp' r=>hp' = hpB q (.ptr 0 0) (bs++s.data.toList)∧r = .tup [.int s.size,.p (.val .nilIface)]:=by
 have hcc:=z8A q x bs hx
 have hl2:=z6h bs
 have happ:z0t bs++z0t s.data.toList=z0t (bs++s.data.toList):=by simp [z0t]
 simp only [hpB] at hcc ⊢
 rcases hx with rfl|rfl
 ·refine MemC.of Tryz.func30 rfl 19 rfl (by decide) ?_;simp only [z08,frOf]
  repeat' (first|refine T.zk fun K hK=>?_|apply T.block|(refine T.reg (by kernel_rfl) fun K' hK'=>?_;simp only [bz];(repeat' (first|(with_reducible refine WL.fin ?_;apply hK';clear hK' K')|((with_reducible refine WL.step fun K2 hK2=>?_);simp only [simprocAttr,implies_true,amz,zf,tys,appS36,hl2,hl,happ,cv_nil,sl9,Bool.false_eq_true];(repeat' (first|with_reducible (first|(apply hK2;clear hK2 K2)|apply And.intro|intro hb)|((with_reducible refine qg 2 _ _ [0] (Ent.of Tryz.func49 (by kernel_rfl) rfl) (hcc) ?_ ?_ ?_);(focus ((refine ⟨Nat.le_of_ble_eq_true rfl,?_,?_⟩ <;> simp only [pz,reduceIte,Nat.reduceEqDiff,AV.okB,Nat.reduceLT,]);done));(focus (simp [AV.okB];done));rintro hp' r ⟨rfl,rfl⟩;refine ⟨by simp [Kept,zq,AO.handle],?_⟩;simp only [cz,ASt.qh,AO.keep,Nat.reduceLeDiff,reduceIte,Nat.reduceEqDiff,])))))))|apply T.skip|apply T.exit|refine T.zh rfl ?_|refine T.zg rfl ?_|refine T.cond rfl (fun hc=>?_) (fun hc=>?_)|apply T.ret|simp only [ze,z8,reduceIte,Nat.reduceEqDiff]|((repeat ((fail_if_success apply hK);clear hK K));apply hK;clear hK K))
  all_goals (refine FinM.ret (s':=⟨[(4,.int s.size),(5,.p (.val .nilIface))],hpB q (.ptr 0 0) (bs++s.data.toList),19,2⟩) (r := .tup [.int s.size,.p (.val .nilIface)]) (.inr rfl) Tryz.results30 (by refine zi.of' rfl ?_;simp only [wks,reduceIte,Nat.reduceEqDiff,ASt.okB,AV.okB,Nat.reduceLT,implies_true,hpB]) rfl ?_ ?_;(focus (simp only [zI,zu,zw,simprocAttr,implies_true,amz,zf,tys,];done)))
  all_goals exact ⟨rfl,rfl⟩
 ·refine MemC.of Tryz.func30 rfl 19 rfl (by decide) ?_;simp only [z08,frOf]
  repeat' (first|refine T.zk fun K hK=>?_|apply T.block|(refine T.reg (by kernel_rfl) fun K' hK'=>?_;simp only [bz];(repeat' (first|(with_reducible refine WL.fin ?_;apply hK';clear hK' K')|((with_reducible refine WL.step fun K2 hK2=>?_);simp only [simprocAttr,implies_true,amz,zf,tys,appS36,hl2,hl,happ,cv_nil,sl9,Bool.false_eq_true];(repeat' (first|with_reducible (first|(apply hK2;clear hK2 K2)|apply And.intro|intro hb)|((with_reducible refine qg 2 _ _ [0] (Ent.of Tryz.func49 (by kernel_rfl) rfl) (hcc) ?_ ?_ ?_);(focus ((refine ⟨Nat.le_of_ble_eq_true rfl,?_,?_⟩ <;> simp only [pz,reduceIte,Nat.reduceEqDiff,AV.okB,Nat.reduceLT,]);done));(focus (simp [AV.okB];done));rintro hp' r ⟨rfl,rfl⟩;refine ⟨by simp [Kept,zq,AO.handle],?_⟩;simp only [cz,ASt.qh,AO.keep,Nat.reduceLeDiff,reduceIte,Nat.reduceEqDiff,])))))))|apply T.skip|apply T.exit|refine T.zh rfl ?_|refine T.zg rfl ?_|refine T.cond rfl (fun hc=>?_) (fun hc=>?_)|apply T.ret|simp only [ze,z8,reduceIte,Nat.reduceEqDiff]|((repeat ((fail_if_success apply hK);clear hK K));apply hK;clear hK K))
  all_goals (refine FinM.ret (s':=⟨[(4,.int s.size),(5,.p (.val .nilIface))],hpB q (.ptr 0 0) (bs++s.data.toList),19,2⟩) (r := .tup [.int s.size,.p (.val .nilIface)]) (.inr rfl) Tryz.results30 (by refine zi.of' rfl ?_;simp only [wks,reduceIte,Nat.reduceEqDiff,ASt.okB,AV.okB,Nat.reduceLT,implies_true,hpB]) rfl ?_ ?_;(focus (simp only [zI,zu,zw,simprocAttr,implies_true,amz,zf,tys,];done)))
  all_goals exact ⟨rfl,rfl⟩
theorem freeze_kp (w:World) (g n:Nat):Kp (fun k=>k=g) w (w.freeze ⟨g,0,none⟩ n):=by
 unfold World.freeze
 split
 ·exact Kp.refl _ _
 ·exact ⟨rfl,rfl,rfl,by simp,fun k hk hn=>by
   simp only [Array.getElem?_modify]
   rw [if_neg (fun e=>hn e.symm)]⟩
theorem shut_all {L:Nat→Prop} {N n:Nat} {hp:Hp} {loc:Nat→Option Value} {w w' : World} (hh:HRel L N hp loc w) (hs:w.heap.size≤w'.heap.size):HRel L n [] z2A w' :=
 ⟨fun t o h=>(by cases h),fun t h=>rfl,fun t t' u u' b h=>(by cases h),fun b hb=>Nat.lt_of_lt_of_le (hh.inL b hb) hs,fun t u b h=>(by cases h)⟩
theorem stringC (q:Nat) (x:AV) (bs:List UInt8) (hne:bs ≠ []):MemC Tryz.prog 34 2 (hpB q x bs) [.ptr 0 0] fun hp' r=>hp' = []∧r = .str ⟨bs.toArray⟩:=fun L loc w vs hh hvs=>by
 obtain ⟨v0,rfl⟩ : ∃ v0,vs = [v0]:=by
  match vs,hvs.1 with
  | [v0],_=>exact ⟨v0,rfl⟩
 obtain ⟨p,v,l0,hbk,hp,l1,hp1,hown⟩:=z7P hh
 have h0:=hvs.2 0 _ v0 rfl rfl
 cases h0 with
 | ptr _ _ _ _ _ hv =>
 obtain rfl:=hv q l0
 have hl0:bs.length ≠ 0:=by simpa using hne
 obtain ⟨g,cap,cur,rfl,hg,hnc,hcm,hcs⟩ : ∃ g cap cur,v = .slice (some ⟨g,0,none⟩) bs.length cap∧w.heap[g]? = some (.cells cur 5 (0,0))∧bs.length≤cap∧cap≤maxLen∧cur.size=cap:=by
  rcases hown.2 with ⟨_,hz⟩|⟨g,cap,cur,hv,_,a1,a2,a3,a4,_⟩
  ·exact absurd hz hl0
  ·exact ⟨g,cap,cur,hv,a1,a2,a3,by rw [a4,Nat.mul_one]⟩
 have c1:w.drew.cell? ⟨q,1,none⟩=some (.slice (some ⟨g,0,none⟩) bs.length cap):=by
  show w.cell? _=_
  simp [World.cell?,hbk]
 have hSD:(Builtin.unsafeSliceData_ #[92] 124 #[.slice (some ⟨g,0,none⟩) bs.length cap]).run Tryz.prog w.drew = .ok (.pointer (some ⟨g,0,none⟩)) w.drew:=Go.Lib.run_unsafeSliceData_row _ _ _ _ _ _ (by omega)
 have hUS:(Builtin.unsafeString_ #[124,3] 9 #[.pointer (some ⟨g,0,none⟩),.int .i64 bs.length]).run Tryz.prog w.drew = .ok (.string ⟨bs.toArray⟩) (w.drew.freeze ⟨g,0,none⟩ bs.length) :=
  Go.Lib.run_unsafeString_row w.drew 124 3 9 5 (by kernel_rfl) (by kernel_rfl) g cur.size (by show w.shape? g=_;simp [World.shape?,hg]) bs hne (by omega) (by unfold maxLen at hcm;omega) (fun j y hy =>
   hown.cells (g:=g) rfl j (.int .u8 y.toNat) (by simp [Go.Lib.byteCells,hy]))
 suffices H:Calls Tryz.prog 34 #[.pointer (some ⟨q,0,none⟩)] w fun e w'=>e = .returned (.string ⟨bs.toArray⟩)∧w' = w.drew.freeze ⟨g,0,none⟩ bs.length by
  refine Calls.mono H ?_
  rintro e w' ⟨rfl,rfl⟩
  have hk:=freeze_kp w.drew g bs.length
  refine ⟨_,z2A,[],_,rfl,⟨rfl,rfl⟩,shut_all hh hk.size,.qC _ rfl,⟨⟨hk.os,hk.tape,hk.output,hk.size,fun k hk' hn=>hk.block k hk' fun e=>hn (.inr ⟨1,_,l1,by rw [e];rfl⟩)⟩,fun b hb=>?_⟩⟩
  rcases hb with hb|⟨t,u,h1,_⟩
  ·exact hb.elim
  ·cases h1
 go_enter Tryz.func34,Tryz.ntmps34
 go_wp2
 go_region
 all_goals (go_wp2;go_ret;exact ⟨rfl,rfl⟩)
end Go.Proofs.YtbkkginjfnjffaaGreatDoor
namespace Go.Proofs.YtbkkginjfnjffaaGreatDoor
open Go.RowKit Go.Sort Go.Maps
structure Tx where
 q:Nat
 pb:Nat
 db:Nat
 lb:Nat
 cb:Nat
 fs:List Fu
 g:PV
 y:PV
 mn:Int
 st:List Int
 sz:Int
def hpT (t:Tx) (bs:List UInt8):Hp := [(0,.boxP (some t.q) 94 [.ptr 0 0,.own 1]),(1,.row 5 1 (z0t bs)),(2,.boxP (some t.pb) 53 [.p (.seq 4 (t.fs.map fuC)),.p t.g,.p t.y,.int t.mn]),(3,.boxP (some t.db) 95 [.fn (.func 29) []]),(4,.boxP (some t.lb) 57 [.p (.seq 1 (rowZ t.st)),.int t.sz]),(1000000,.boxP (some 0) 186 (z0c z3T))]
theorem renC (a b:Nat) (l:List Value):(z0c l).map (AV.ren a b)=z0c l:=by
 simp [z0c,AV.zW]
def hpT5 (t:Tx) (l:List P2) (bs:List UInt8):Hp:=(5,.boxP (some t.cb) 26 [.p (.seq 2 (rowP l))]) :: hpT t bs
def hpTY (lr:Nat) (sp:LSpec) (t:Tx) (l:List P2) (bs:List UInt8):Hp:=(1999999,.lrec lr sp [(2,.ptr 0 0),(3,.ptr 2 0),(4,.ptr 3 0),(5,.ptr 4 0)]) :: hpT5 t l bs
theorem z01 (t:Tx) (l:List P2) (bs:List UInt8) (n:Nat) (hn : 1000001≤n):HpOk n (hpT5 t l bs) :=
 ⟨fun p hp=>by
  simp only [hpT5,hpT,List.mem_cons,List.not_mem_nil,or_false] at hp
  rcases hp with rfl|rfl|rfl|rfl|rfl|rfl|rfl
  ·exact ⟨by simp only [];omega,by simp [AO.zL,AV.okB]⟩
  ·exact ⟨by simp only [];omega,by simp [AO.zL,AV.okB];omega⟩
  ·exact ⟨by simp only [];omega,rfl⟩
  ·exact ⟨by simp only [];omega,by simp [AO.zL,AV.okB]⟩
  ·exact ⟨by simp only [];omega,by simp [AO.zL,AV.okB,AV.qm]⟩
  ·exact ⟨by simp only [];omega,by simp [AO.zL,AV.okB]⟩
  ·exact ⟨by simp only [];omega,zH _ _⟩,fun p hp=>by
  simp only [hpT5,hpT,List.mem_cons,List.not_mem_nil,or_false] at hp
  rcases hp with rfl|rfl|rfl|rfl|rfl|rfl|rfl <;> rfl⟩
theorem z4y (lr:Nat) (sp:LSpec) (t:Tx) (l:List P2) (bs:List UInt8):HpOk 2000000 (hpTY lr sp t l bs) :=
 (z01 t l bs 2000000 (by omega)).cons (by omega) (by simp [AO.z0b,AV.okB]) ((z01 t l bs 1999999 (by omega)).none (Nat.le_refl _))
theorem z6d.ofK {P:Program} {fr:List (Nat × AV)} {n N y:Nat} {xs:List AV} {d:Option Nat} {K:ASt→Prop} (m:Nat) (ks:List Nat) (H H' : Hp) (l:Nat) (sp:LSpec) (fr0:List (Nat × AV)) (hH:HpOk m H) (hyc:YldC P l m H xs fun hp' r=>hp' = H' ∧ r = .bool true)
  (hlk:H.lookup y=some (.lrec l sp fr0)) (hk : ∀ t ∈ ks,Kept H H' t) (hN:m≤N) (hxs:(xs.all (·.okB m))=true) (hK:K (ASt.put ⟨fr.map fun p=>(p.1,p.2.keep m ks),H',n,N⟩ d (.bool true))):z6d P ⟨fr,H,n,N⟩ y xs d K:=by
 refine ⟨m,H,_,ks,l,sp,fr0,hyc,hlk,⟨hN,fun p hp=>?_,fun p hp hlt=>?_⟩,hxs,?_⟩
 ·obtain ⟨h1,h2⟩:=hH.ok p hp
  exact ⟨hH.one p hp,h1,h2⟩
 ·rw [hH.one p hp];rfl
 ·rintro hp' r ⟨rfl,rfl⟩
  refine ⟨fun t ht _=>hk t ht,?_⟩
  have e:ASt.qh ⟨fr,H,n,N⟩ m ks hp' = ⟨fr.map fun p=>(p.1,p.2.keep m ks),hp',n,N⟩:=by
   unfold ASt.qh
   simp only [hH.le,List.map_nil,List.append_nil]
  rw [e]
  exact hK
def bsQ (t:Tx) (l:List P2) (b0:List UInt8) (q:Nat):List UInt8:=(putN t.fs t.st t.sz (l.drop q).reverse ⟨b0.toArray⟩).data.toList
theorem bsQ_step {t:Tx} {l:List P2} {b0:List UInt8} {p:Nat} {s:P2} (h:l[p]? = some s):bsQ t l b0 p=bsQ t l b0 (p+1)++(entN t.fs t.st t.sz s).data.toList:=by
 unfold bsQ
 rw [rev_step h,put_app]
 exact z1V _ _
theorem bsQ_end (t:Tx) (l:List P2) (b0:List UInt8):bsQ t l b0 l.length=b0:=by
 simp [bsQ,putN]
theorem bsQ_len {t:Tx} (h:NmOk t.fs) (hl:t.st.length≤1000000) (l:List P2) (b0:List UInt8) (q:Nat) (hll:l.length≤1000):(bsQ t l b0 q).length≤b0.length+1048700000:=by
 have h1:=put_le h t.st t.sz hl (l.drop q).reverse ⟨b0.toArray⟩
 have e1:(bsQ t l b0 q).length=(putN t.fs t.st t.sz (l.drop q).reverse ⟨b0.toArray⟩).size:=by rw [bsQ,Array.length_toList];rfl
 have e2:(⟨b0.toArray⟩ : ByteArray).size=b0.length:=by simp [ByteArray.size]
 rw [List.length_reverse,List.length_drop] at h1
 have:(l.length-q)*1048700≤1000*1048700:=Nat.mul_le_mul_right _ (by omega)
 omega
theorem z5q (lr:Nat) (sp:LSpec) (t:Tx) (l:List P2) (b0:List UInt8) (hn:NmOk t.fs) (hl:t.st.length≤1000000) (hll:l.length≤1000) (hb:b0.length≤2000000000)
  (hyld : ∀ bs (p:Nat) s,l[p]? = some s→bs.length≤4000000000→YldC Tryz.prog lr 2000000 (hpTY lr sp t l bs) [.int p,.agg [.int s.1,.int s.2]] fun hp' r=>hp' = hpTY lr sp t l (bs++(entN t.fs t.st t.sz s).data.toList)∧r = .bool true) :
  MemC Tryz.prog 50 2000000 (hpTY lr sp t l b0) [.own 1999999,.ptr 5 0] fun hp' r=>hp' = hpTY lr sp t l (bsQ t l b0 0)∧r = .tup []:=by
 have hrl:=z04 l
 have w0:IntKind.i64.wrap ((l.length:Int)-1)=(l.length:Int)-1:=z15 (by omega) (by omega)
 simp only [hpTY,hpT5,hpT]
 refine MemC.of Tryz.func50 rfl 19 rfl (by decide) ?_;simp only [z08,frOf]
 repeat' (first|refine T.zk fun K hK=>?_|apply T.block|(refine T.reg (by kernel_rfl) fun K' hK'=>?_;simp only [bz];(with_reducible repeat' (first|(apply WL.fin;apply hK';clear hK' K')|(refine WL.step fun K2 hK2=>?_;simp only [simprocAttr,implies_true,amz,zf,tys,hrl,w0];repeat' (first|(apply hK2;clear hK2 K2)|apply And.intro|intro hb)))))|apply T.skip|apply T.exit|refine T.zh rfl ?_|refine T.zg rfl ?_|refine T.cond rfl (fun hc=>?_) (fun hc=>?_)|apply T.ret|simp only [ze,z8,reduceIte,Nat.reduceEqDiff]|((repeat ((fail_if_success apply hK);clear hK K));apply hK;clear hK K))
 refine T.z02 (fun q:Nat=>⟨[(0,.own 1999999),(1,.ptr 5 0),(3,.int ((q:Int)-1))],hpTY lr sp t l (bsQ t l b0 q),19,2000000⟩) (fun q=>q≤l.length) (fun q=>q) l.length (Nat.le_refl _) (by refine zi.of' rfl ?_;simp only [wks,reduceIte,Nat.reduceEqDiff,ASt.okB,AV.okB,Nat.reduceLT,implies_true,bsQ_end,hpTY,hpT5,hpT,AO.z0b,zH]) ?_
 intro q hq KL hKL
 by_cases hq0:q=0
 ·subst hq0
  have hd:decide (0≤((0:Nat):Int)-1)=false:=by simp
  simp only [hpTY,hpT5,hpT]
  repeat' (first|refine T.zk fun K hK=>?_|apply T.block|(refine T.reg (by kernel_rfl) fun K' hK'=>?_;simp only [bz];(with_reducible repeat' (first|(apply WL.fin;apply hK';clear hK' K')|(refine WL.step fun K2 hK2=>?_;simp only [simprocAttr,implies_true,amz,zf,tys,hd];repeat' (first|(apply hK2;clear hK2 K2)|apply And.intro|intro hb)))))|apply T.skip|apply T.exit|refine T.zh rfl ?_|refine T.zg rfl ?_|refine T.cond rfl (fun hc=>?_) (fun hc=>?_)|apply T.ret|simp only [ze,z8,reduceIte,Nat.reduceEqDiff]|((repeat ((fail_if_success apply hK);clear hK K));apply hK;clear hK K))
  refine FinM.ret (s':=⟨[],hpTY lr sp t l (bsQ t l b0 0),19,2000000⟩) (r := .tup []) (.inl rfl) Tryz.results50 (by refine zi.of' rfl ?_;simp only [wks,reduceIte,Nat.reduceEqDiff,ASt.okB,AV.okB,Nat.reduceLT,implies_true,hpTY,hpT5,hpT,AO.z0b,zH]) rfl (by simp only [zI,zu]) ⟨rfl,rfl⟩
 obtain ⟨p,rfl⟩ : ∃ p,q=p+1:=⟨q-1,by omega⟩
 obtain ⟨s,hs⟩:=qA (l:=l) (k:=p) (by omega)
 have hqp:(((p+1:Nat):Int)-1)=(p:Int):=by omega
 have hd:decide (0≤(p:Int))=true:=by simp
 have hp0:(0≤(p:Int))=True:=eq_true (by omega)
 have w1:IntKind.i64.wrap ((p:Int)-1)=(p:Int)-1:=z15 (by omega) (by omega)
 have m1:=z0I hs
 have hlen:=bsQ_len hn hl l b0 (p+1) hll
 have hyl:=hyld (bsQ t l b0 (p+1)) p s hs (by omega)
 rw [← bsQ_step hs] at hyl
 obtain ⟨b1,hb1⟩ : ∃ b1,b1=bsQ t l b0 (p+1):=⟨_,rfl⟩
 obtain ⟨b2,hb2⟩ : ∃ b2,b2=bsQ t l b0 p:=⟨_,rfl⟩
 rw [← hb1,← hb2] at hyl
 have hH:=z4y lr sp t l b1
 have hH2:=z4y lr sp t l b2
 rw [hqp,← hb1]
 simp only [hpTY,hpT5,hpT]
 repeat' (first|refine T.zk fun K hK=>?_|apply T.block|apply T.skip|apply T.exit|refine T.zh rfl ?_|refine T.zg rfl ?_|refine T.cond rfl (fun hc=>?_) (fun hc=>?_)|apply T.ret|simp only [ze,z8,reduceIte,Nat.reduceEqDiff]|((repeat ((fail_if_success apply hK);clear hK K));apply hK;clear hK K))
 (refine T.reg (by kernel_rfl) fun K' hK'=>?_;simp only [bz];(with_reducible repeat' (first|(apply WL.fin;apply hK';clear hK' K')|(refine WL.step fun K2 hK2=>?_;simp only [simprocAttr,implies_true,amz,zf,tys,hd];repeat' (first|(apply hK2;clear hK2 K2)|apply And.intro|intro hb))));all_goals ((try simp only [ze,z8,reduceIte,Nat.reduceEqDiff]);(try ((repeat ((fail_if_success apply hK);clear hK K));apply hK;clear hK K))))
 repeat' (first|refine T.zk fun K hK=>?_|apply T.block|apply T.skip|apply T.exit|refine T.zh rfl ?_|refine T.zg rfl ?_|refine T.cond rfl (fun hc=>?_) (fun hc=>?_)|apply T.ret|simp only [ze,z8,reduceIte,Nat.reduceEqDiff]|((repeat ((fail_if_success apply hK);clear hK K));apply hK;clear hK K))
 refine T.weak (s':=⟨[(0,.own 1999999),(1,.ptr 5 0),(3,.int p)],hpTY lr sp t l b1,19,2000000⟩) (by refine zi.of' rfl ?_;simp only [wks,reduceIte,Nat.reduceEqDiff,ASt.okB,AV.okB,Nat.reduceLT,implies_true,hpTY,hpT5,hpT,AO.z0b,zH]) ?_
 refine T.regI (by kernel_rfl) fun K' hK'=>?_;simp only [yl]
 simp only [hpTY,hpT5,hpT]
 iterate 6 ((with_reducible refine WLI.stepP fun K2 hK2=>?_);simp only [simprocAttr,implies_true,amz,zf,tys,hrl,hp0,Int.toNat_natCast,m1];(repeat' (first|with_reducible (first|(apply hK2;clear hK2 K2)|apply And.intro|intro hb))))
 (with_reducible refine WLI.stepY fun K2 hK2=>?_);simp only [WSY,WY,simprocAttr,implies_true,amz,zf,tys]
 refine z6d.ofK 2000000 [1999999,5] (hpTY lr sp t l b1) (hpTY lr sp t l b2) lr sp [(2,.ptr 0 0),(3,.ptr 2 0),(4,.ptr 3 0),(5,.ptr 4 0)] hH hyl rfl (fun x hx=>by
  simp only [List.mem_cons,List.not_mem_nil,or_false] at hx
  rcases hx with rfl|rfl
  ·simp [Kept,hpTY,zq,AO.handle]
  ·simp [Kept,hpTY,hpT5,zq,AO.handle]) (by decide) (by simp [AV.okB,AV.zT]) ?_
 apply hK2;clear hK2 K2
 simp only [yl,AV.z1c,AV.z0h,AV.z3m,AV.z4a,AV.z5d,AV.z3Z,AV.z2d,AV.z3l,AV.z2c,AV.z3Y,AV.z4b,Nat.reduceLeDiff,true_or,reduceIte,List.mem_cons,List.not_mem_nil,or_false,or_true,false_or,List.cons_append,List.nil_append,z07,tys]
 (with_reducible refine WLI.stepP fun K2 hK2=>?_);simp only [simprocAttr,implies_true,amz,zf,tys];(repeat' (first|with_reducible (first|(apply hK2;clear hK2 K2)|apply And.intro|intro hb)))
 (with_reducible refine WLI.fin ?_);apply hK';clear hK' K';(try simp only [ze,z8,reduceIte,Nat.reduceEqDiff]);(try ((repeat ((fail_if_success apply hK);clear hK K));apply hK;clear hK K))
 repeat' (first|refine T.zk fun K hK=>?_|apply T.block|(refine T.reg (by kernel_rfl) fun K' hK'=>?_;simp only [bz];(with_reducible repeat' (first|(apply WL.fin;apply hK';clear hK' K')|(refine WL.step fun K2 hK2=>?_;simp only [simprocAttr,implies_true,amz,zf,tys,w1];repeat' (first|(apply hK2;clear hK2 K2)|apply And.intro|intro hb)))))|apply T.skip|apply T.exit|refine T.zh rfl ?_|refine T.zg rfl ?_|refine T.cond rfl (fun hc=>?_) (fun hc=>?_)|apply T.ret|simp only [ze,z8,reduceIte,Nat.reduceEqDiff]|((repeat ((fail_if_success apply hK);clear hK K));apply hK;clear hK K))
 refine hKL _ p (by refine zi.of' rfl ?_;simp only [wks,reduceIte,Nat.reduceEqDiff,ASt.okB,AV.okB,Nat.reduceLT,implies_true,hb2,hpTY,hpT5,hpT,AO.z0b,zH]) (by omega) (by omega)
theorem z6U (t:Tx) (l:List P2) (bs:List UInt8):MemC Tryz.prog 32 1000001 (hpT t bs) [.p (.seq 2 (rowP l))] fun hp' r=>(∃ c,hp' = hpT5 { t with cb:=c } l bs)∧r = .fn (.func 50) [.ptr 5 0]:=by
 simp only [hpT]
 refine MemC.of Tryz.func32 rfl 4 rfl (by decide) ?_;simp only [z08,frOf]
 repeat' (first|refine T.zk fun K hK=>?_|apply T.block|apply T.skip|apply T.exit|refine T.zh rfl ?_|refine T.zg rfl ?_|refine T.cond rfl (fun hc=>?_) (fun hc=>?_)|apply T.ret|simp only [ze,z8,reduceIte,Nat.reduceEqDiff]|((repeat ((fail_if_success apply hK);clear hK K));apply hK;clear hK K))
 (refine T.reg (by kernel_rfl) fun K' hK'=>?_;simp only [bz];(with_reducible repeat' (first|(apply WL.fin;apply hK';clear hK' K')|(refine WL.step fun K2 hK2=>?_;simp only [simprocAttr,implies_true,amz,zf,tys];repeat' (first|(apply hK2;clear hK2 K2)|apply And.intro|intro hb))));all_goals ((try simp only [ze,z8,reduceIte,Nat.reduceEqDiff]);(try ((repeat ((fail_if_success apply hK);clear hK K));apply hK;clear hK K))))
 refine T.weak (zi.ren _ 1000001 5) ?_;simp only [ASt.ren,AV.zZ,AV.zG,AV.qd,AV.qw,AV.zW,AV.zF,AV.zA,AV.qc,AV.qO,AV.zD,AV.qx,AO.qD,AO.qG,AO.qE,AO.qF,yl,List.filter_cons,List.filter_nil,zq,qp,reduceIte,Nat.reduceEqDiff,Nat.reduceLT,Nat.reduceBneDiff,bne_self_eq_false,Bool.and_true,Bool.and_false,Bool.true_and,Bool.false_and,Bool.and_self,Bool.false_eq_true,ne_eq,not_false_eq_true,not_true_eq_false,and_self,and_true,true_and,and_false,bne_self_eq_false,renC]
 refine T.pin 5 _ rfl fun c=>?_;simp only [zO,AO.pin,yl,reduceIte,Nat.reduceEqDiff]
 repeat' (first|refine T.zk fun K hK=>?_|apply T.block|(refine T.reg (by kernel_rfl) fun K' hK'=>?_;simp only [bz];(with_reducible repeat' (first|(apply WL.fin;apply hK';clear hK' K')|(refine WL.step fun K2 hK2=>?_;simp only [simprocAttr,implies_true,amz,zf,tys];repeat' (first|(apply hK2;clear hK2 K2)|apply And.intro|intro hb)))))|apply T.skip|apply T.exit|refine T.zh rfl ?_|refine T.zg rfl ?_|refine T.cond rfl (fun hc=>?_) (fun hc=>?_)|apply T.ret|simp only [ze,z8,reduceIte,Nat.reduceEqDiff]|((repeat ((fail_if_success apply hK);clear hK K));apply hK;clear hK K))
 refine FinM.ret (s':=⟨[(2,.fn (.func 50) [.ptr 5 0])],hpT5 { t with cb:=c } l bs,4,1000001⟩) (r := .fn (.func 50) [.ptr 5 0]) (.inr rfl) Tryz.results32 (by refine zi.of' rfl ?_;simp only [wks,reduceIte,Nat.reduceEqDiff,ASt.okB,AV.okB,Nat.reduceLT,implies_true,hpT5,hpT,AV.qm,zH]) rfl ?_ ⟨⟨c,rfl⟩,rfl⟩
 simp only [zI,zu,zw,simprocAttr,implies_true,amz,zf,tys]
end Go.Proofs.YtbkkginjfnjffaaGreatDoor
