/- Texts Py, Pz, Qa, Qb, Qd, Qe, Qf, Av, Ba, Qg, Qh, Qi, Qj, Qk, Law, Ra, Ql, Qn, Qy, Qp, Qo, Qr, Qs, Qt, Qu, Qv, Bb, Qw. -/
import Derived.Shelf.SlSortCmp.Whole1
import Derived.Shelf.SlSortCmp.NoneTotal
import Derived.Ground.SlsfProg
import Derived.ProofKit
import Derived.HandedShaped
import Derived.OpenShut
import Derived.Test.YtnckehomadnhoaaZ07
namespace Go.Proofs.Ytnckehomadnhoaa
open Go.RowKit Go.Sort Go.Maps
set_option linter.unusedSimpArgs false
set_option linter.unusedVariables false
theorem conflict_eq (a b:Ev):conflictP a b=conflictB a b:=by
  unfold conflictP conflictB
  have:(memoryB a.kind && memoryB b.kind)=true→((if a.kind < b.kind then b.kind else a.kind) == 2)=(a.kind == 2 || b.kind == 2):=fun h=>by
    simp only [memoryB,Bool.and_eq_true,Bool.or_eq_true,beq_iff_eq] at h
    rcases h with ⟨h1|h1,h2|h2⟩ <;> simp [h1,h2]
  cases h:(memoryB a.kind && memoryB b.kind) with
  | false=>simp
  | true=>rw [this h]
def raC (x:Nat × Nat):List PV := [.val (.int .i64 (x.1:Int)),.val (.int .i64 (x.2:Int))]
def rowQ (r:List (Nat × Nat)):List (List PV):=r.map raC
theorem rowQ_len (r:List (Nat × Nat)):(rowQ r).length=r.length:=by simp [rowQ]
theorem rowQ_snoc (r:List (Nat × Nat)) (x:Nat × Nat):rowQ r ++ [[PV.val (.int .i64 (x.1:Int)),.val (.int .i64 (x.2:Int))]]=rowQ (r ++ [x]):=by simp [rowQ,raC]
theorem nilQ:rowQ [] = []:=rfl
def prJ (p:Nat→Nat→Bool) (j k:Nat):List (Nat × Nat):=(rgF (fun i=>p i j) k).map fun i=>(i,j)
def prU (p:Nat→Nat→Bool) (b:Nat→Nat):Nat→List (Nat × Nat)
  | 0 => []
  | j + 1=>prU p b j ++ prJ p j (b j)
theorem prJ_zero (p:Nat→Nat→Bool) (j:Nat):prJ p j 0 = []:=rfl
theorem prJ_succ (p:Nat→Nat→Bool) (j k:Nat):prJ p j (k + 1)=prJ p j k ++ if p k j then [(k,j)] else []:=by
  unfold prJ
  rw [rgF_succ,List.map_append]
  split <;> rfl
theorem prJ_len (p:Nat→Nat→Bool) (j k:Nat):(prJ p j k).length≤k:=by
  unfold prJ;rw [List.length_map];exact rgF_len _ k
theorem prU_len (p:Nat→Nat→Bool) (b:Nat→Nat) (m:Nat) (hb : ∀ j,b j≤j + 1) : ∀ j,j≤m→(prU p b j).length≤j * m
  | 0,_=>by simp [prU]
  | j + 1,h=>by
    have h1:=prU_len p b m hb j (by omega)
    have h2:=prJ_len p j (b j)
    have h3:=hb j
    rw [prU,List.length_append,Nat.add_mul]
    omega
def confL (l:List Ev) (i j:Nat):Bool:=match l[i]?,l[j]? with
  | some a,some b=>conflictB a b
  | _,_=>false
theorem confL_eq {l:List Ev} {i j:Nat} {a b:Ev} (h1:l[i]? = some a) (h2:l[j]? = some b):confL l i j=conflictB a b:=by simp [confL,h1,h2]
def racP (l:List Ev) (i j:Nat):Bool := !cnM l j i && confL l i j
def racesO (l:List Ev):List (Nat × Nat):=if (checkB l).2 then prU (racP l) (fun j=>j + 1) l.length else []
set_option maxHeartbeats 16000000 in
set_option maxRecDepth 100000 in
theorem races_ok (l:List Ev) (hl:l.length ≤ 100000):PureC Try.prog 24 [.p (.seq 9 (l.map evC))] (.p (.seq 2 (rowQ (racesO l)))):=by
  have hv:=valid_t l hl
  cases h5:(checkB l).2 with
  | false =>
    rw [h5] at hv
    have hr:racesO l = []:=by simp [racesO,h5]
    refine PureC.of Try.func24 rfl 48 rfl (by decide) (by simp [AV.okB]) ?_
    repeat' (first|refine T.seqK fun K hK=>?_|refine T.block ?_|(refine T.reg (by kernel_rfl) fun K' hK'=>?_;simp only [startSt,frOf,List.map_cons,List.map_nil];(repeat' (first|(with_reducible refine WL.fin ?_;refine hK' _ ?_;clear hK' K')|((with_reducible refine WL.step fun K2 hK2=>?_);simp only [simprocAttr,implies_true,amz,tys];(repeat' (first|with_reducible (first|(refine hK2 _ ?_;clear hK2 K2)|refine And.intro ?_ ?_|intro hb)|((first|(with_reducible apply callArmO)|(with_reducible apply callArm));case h=>exact CallV.plain (Ent.of Try.func28 (by kernel_rfl) rfl) (hv) (by simp [AV.okB]))))))))|refine T.skip ?_|refine T.exit ?_|refine T.condT rfl ?_|refine T.condF rfl ?_|refine T.cond rfl (fun hc=>?_) (fun hc=>?_)|refine T.ret ?_|simp only [ThenA,InBlock,reduceIte,Nat.reduceEqDiff]|((repeat ((fail_if_success (refine hK _ ?_));clear hK K));refine hK _ ?_;clear hK K))
    refine FinA.retW (.inr rfl) Try.results24 (s':=⟨[(2,.p (.seq 2 []))],[],48,0⟩) (by refine Weak.of' rfl ?_;simp only [wks,reduceIte,Nat.reduceEqDiff,ASt.okB,AV.okB,Nat.reduceLT,implies_true,]) ?_
    rw [hr];simp only [ares,aresL,ares1,nilQ,simprocAttr,implies_true,amz,tys]
  | true =>
    rw [h5] at hv
    have hc:=cones_ok l (by omega) (evI_of h5)
    have hr:racesO l=prU (racP l) (fun j=>j + 1) l.length:=by simp [racesO,h5]
    rw [hr]
    obtain ⟨n,hn⟩ : ∃ n,n=l.length:=⟨_,rfl⟩
    have m0:((triR l.length (fC (relsU l l.length))).map fun r => [PV.seq 1 r]).length=n:=by rw [List.length_map,triR_len,hn]
    rw [← hn]
    refine PureC.of Try.func24 rfl 48 rfl (by decide) (by simp [AV.okB]) ?_
    repeat' (first|refine T.seqK fun K hK=>?_|refine T.block ?_|(refine T.reg (by kernel_rfl) fun K' hK'=>?_;simp only [startSt,frOf,List.map_cons,List.map_nil];(repeat' (first|(with_reducible refine WL.fin ?_;refine hK' _ ?_;clear hK' K')|((with_reducible refine WL.step fun K2 hK2=>?_);simp only [simprocAttr,implies_true,amz,tys,triR_len,← hn];(repeat' (first|with_reducible (first|(refine hK2 _ ?_;clear hK2 K2)|refine And.intro ?_ ?_|intro hb)|((first|(with_reducible apply callArmO)|(with_reducible apply callArm));case h=>exact CallV.plain (Ent.of Try.func28 (by kernel_rfl) rfl) (hv) (by simp [AV.okB]))|((first|(with_reducible apply callArmO)|(with_reducible apply callArm));case h=>exact CallV.plain (Ent.of Try.func36 (by kernel_rfl) rfl) (hc) (by simp [AV.okB]))))))))|refine T.skip ?_|refine T.exit ?_|refine T.condT rfl ?_|refine T.condF rfl ?_|refine T.cond rfl (fun hc=>?_) (fun hc=>?_)|refine T.ret ?_|simp only [ThenA,InBlock,reduceIte,Nat.reduceEqDiff]|((repeat ((fail_if_success (refine hK _ ?_));clear hK K));refine hK _ ?_;clear hK K))
    refine T.weak (Weak.newrow _ 3 46 2 (show 3 < 48 by decide) rfl) ?_;simp only [ASt.add,put_some,Nat.reduceAdd]
    refine T.loopK (fun j:Nat=>⟨[(0,.p (.seq 9 (l.map evC))),(3,.own 0),(12,.p (.seq 1 ((triR n (cnM l)).map fun r => [PV.seq 1 r]))),(13,.int n),(14,.int j)],[(0,.row 46 2 (rowQ (prU (racP l) (fun j=>j + 1) j)))],48,1⟩) (fun j=>j≤n) (fun j=>n - j) 0 (Nat.zero_le _) (by refine Weak.of' rfl ?_;simp only [wks,reduceIte,Nat.reduceEqDiff,ASt.okB,AV.okB,Nat.reduceLT,implies_true,Int.natCast_zero,prU,nilQ,cnM,← hn]) ?_
    intro j hj KL hKL
    by_cases hjn:j < n
    · have hd:decide ((j:Int) < (n:Int))=true:=by simpa using hjn
      have m1:=triR_at (cnM l) hjn
      obtain ⟨y,hy⟩:=at_lt (show j < l.length by omega)
      repeat' (first|refine T.seqK fun K hK=>?_|refine T.block ?_|(refine T.reg (by kernel_rfl) fun K' hK'=>?_;simp only [startSt,frOf,List.map_cons,List.map_nil];(repeat' (first|(with_reducible refine WL.fin ?_;refine hK' _ ?_;clear hK' K')|((with_reducible refine WL.step fun K2 hK2=>?_);simp only [simprocAttr,implies_true,amz,tys,hd,m1,rowR_len];(repeat' (first|with_reducible (first|(refine hK2 _ ?_;clear hK2 K2)|refine And.intro ?_ ?_|intro hb) ))))))|refine T.skip ?_|refine T.exit ?_|refine T.condT rfl ?_|refine T.condF rfl ?_|refine T.cond rfl (fun hc=>?_) (fun hc=>?_)|refine T.ret ?_|simp only [ThenA,InBlock,reduceIte,Nat.reduceEqDiff]|((repeat ((fail_if_success (refine hK _ ?_));clear hK K));refine hK _ ?_;clear hK K))
      refine T.loopK (fun k:Nat=>⟨[(0,.p (.seq 9 (l.map evC))),(3,.own 0),(4,.int j),(12,.p (.seq 1 ((triR n (cnM l)).map fun r => [PV.seq 1 r]))),(13,.int n),(14,.int j),(19,.p (.seq 1 (rowR (j + 1) (cnM l j)))),(20,.int (j + 1:Nat)),(21,.int k)],[(0,.row 46 2 (rowQ (prU (racP l) (fun j=>j + 1) j ++ prJ (racP l) j k)))],48,1⟩) (fun k=>k≤j + 1) (fun k=>j + 1 - k) 0 (Nat.zero_le _) (by refine Weak.of' rfl ?_;simp only [wks,reduceIte,Nat.reduceEqDiff,ASt.okB,AV.okB,Nat.reduceLT,implies_true,Int.natCast_zero,prJ_zero,List.append_nil]) ?_
      intro k hk KL2 hKL2
      by_cases hkj:k < j + 1
      · have hd2:decide ((k:Int) < ((j + 1:Nat):Int))=true:=by simp;omega
        obtain ⟨x,hx⟩:=at_lt (show k < l.length by omega)
        have hcf:=conflict_ok x y
        rw [conflict_eq,← confL_eq hx hy] at hcf
        simp only [evA,evC,List.map_cons,List.map_nil] at hcf
        have m2:=rowR_at (cnM l j) hkj
        obtain ⟨r,hr2⟩ : ∃ r,r=prU (racP l) (fun j=>j + 1) j ++ prJ (racP l) j k:=⟨_,rfl⟩
        have hrl:r.length ≤ 100000 * 100000 + 100000:=by
          rw [hr2,List.length_append]
          have q1:=prU_len (racP l) (fun j=>j + 1) n (fun _=>Nat.le_refl _) j (by omega)
          have q2:=prJ_len (racP l) j k
          have q3:j * n ≤ 100000 * 100000:=Nat.mul_le_mul (by omega) (by omega)
          omega
        have hm0 : 1≤maxLen:=by unfold maxLen;omega
        have hm1:r.length + 1≤maxLen:=by unfold maxLen;omega
        have hm2:(r.length + 1) * 16 ≤ 140737488355328:=by omega
        have hnext:prU (racP l) (fun j=>j + 1) j ++ prJ (racP l) j (k + 1)=r ++ if racP l k j then [(k,j)] else []:=by rw [prJ_succ,← List.append_assoc,hr2]
        have hsn:=rowQ_snoc r (k,j)
        rw [← hr2]
        cases hv2:cnM l j k with
        | true =>
          rw [hv2] at m2
          have hp:racP l k j=false:=by simp [racP,hv2]
          repeat' (first|refine T.seqK fun K hK=>?_|refine T.block ?_|(refine T.reg (by kernel_rfl) fun K' hK'=>?_;simp only [startSt,frOf,List.map_cons,List.map_nil];(repeat' (first|(with_reducible refine WL.fin ?_;refine hK' _ ?_;clear hK' K')|((with_reducible refine WL.step fun K2 hK2=>?_);simp only [simprocAttr,implies_true,amz,tys,hd2,m2,bvC];(repeat' (first|with_reducible (first|(refine hK2 _ ?_;clear hK2 K2)|refine And.intro ?_ ?_|intro hb) ))))))|refine T.skip ?_|refine T.exit ?_|refine T.condT rfl ?_|refine T.condF rfl ?_|refine T.cond rfl (fun hc=>?_) (fun hc=>?_)|refine T.ret ?_|simp only [ThenA,InBlock,reduceIte,Nat.reduceEqDiff]|((repeat ((fail_if_success (refine hK _ ?_));clear hK K));refine hK _ ?_;clear hK K))
          refine T.drw 11 (by kernel_rfl) (by kernel_rfl) fun K' hK'=>?_;simp only [List.map_cons,List.map_nil];(repeat' (first|(with_reducible refine WL.fin ?_;refine hK' _ ?_;clear hK' K')|(with_reducible refine WD.fin ?_)|((with_reducible first|refine WL.step fun K2 hK2=>?_|refine WD.step fun K2 hK2=>?_);simp only [simprocAttr,implies_true,amz,tys,hx,hy,evC];(repeat' (first|with_reducible (first|(refine hK2 _ ?_;clear hK2 K2)|refine And.intro ?_ ?_|intro hb)|((first|(with_reducible apply callArmO)|(with_reducible apply callArm));case h=>exact CallV.plain (Ent.of Try.func38 (by kernel_rfl) rfl) (hcf) (by simp [AV.okB])))))));all_goals ((try simp only [ThenA,InBlock,reduceIte,Nat.reduceEqDiff]);(try ((repeat ((fail_if_success (refine hK _ ?_));clear hK K));refine hK _ ?_;clear hK K)))
          all_goals repeat' (first|refine T.seqK fun K hK=>?_|refine T.block ?_|(refine T.reg (by kernel_rfl) fun K' hK'=>?_;simp only [startSt,frOf,List.map_cons,List.map_nil];(repeat' (first|(with_reducible refine WL.fin ?_;refine hK' _ ?_;clear hK' K')|((with_reducible refine WL.step fun K2 hK2=>?_);simp only [simprocAttr,implies_true,amz,tys];(repeat' (first|with_reducible (first|(refine hK2 _ ?_;clear hK2 K2)|refine And.intro ?_ ?_|intro hb) ))))))|refine T.skip ?_|refine T.exit ?_|refine T.condT rfl ?_|refine T.condF rfl ?_|refine T.cond rfl (fun hc=>?_) (fun hc=>?_)|refine T.ret ?_|simp only [ThenA,InBlock,reduceIte,Nat.reduceEqDiff]|((repeat ((fail_if_success (refine hK _ ?_));clear hK K));refine hK _ ?_;clear hK K))
          refine hKL2 _ (k + 1) ?_ (by omega) (by omega)
          rw [hnext,hp,if_neg (by simp),List.append_nil]
          refine Weak.of' rfl ?_;simp only [wks,reduceIte,Nat.reduceEqDiff,ASt.okB,AV.okB,Nat.reduceLT,implies_true,wrap_succ (show k < 1152921504606846976 by omega)]
        | false =>
          rw [hv2] at m2
          cases hcl:confL l k j with
          | true =>
            rw [hcl] at hcf
            have hp:racP l k j=true:=by simp [racP,hv2,hcl]
            repeat' (first|refine T.seqK fun K hK=>?_|refine T.block ?_|(refine T.reg (by kernel_rfl) fun K' hK'=>?_;simp only [startSt,frOf,List.map_cons,List.map_nil];(repeat' (first|(with_reducible refine WL.fin ?_;refine hK' _ ?_;clear hK' K')|((with_reducible refine WL.step fun K2 hK2=>?_);simp only [simprocAttr,implies_true,amz,tys,hd2,m2,bvC];(repeat' (first|with_reducible (first|(refine hK2 _ ?_;clear hK2 K2)|refine And.intro ?_ ?_|intro hb) ))))))|refine T.skip ?_|refine T.exit ?_|refine T.condT rfl ?_|refine T.condF rfl ?_|refine T.cond rfl (fun hc=>?_) (fun hc=>?_)|refine T.ret ?_|simp only [ThenA,InBlock,reduceIte,Nat.reduceEqDiff]|((repeat ((fail_if_success (refine hK _ ?_));clear hK K));refine hK _ ?_;clear hK K))
            refine T.drw 11 (by kernel_rfl) (by kernel_rfl) fun K' hK'=>?_;simp only [List.map_cons,List.map_nil];(repeat' (first|(with_reducible refine WL.fin ?_;refine hK' _ ?_;clear hK' K')|(with_reducible refine WD.fin ?_)|((with_reducible first|refine WL.step fun K2 hK2=>?_|refine WD.step fun K2 hK2=>?_);simp only [simprocAttr,implies_true,amz,tys,hx,hy,evC];(repeat' (first|with_reducible (first|(refine hK2 _ ?_;clear hK2 K2)|refine And.intro ?_ ?_|intro hb)|((first|(with_reducible apply callArmO)|(with_reducible apply callArm));case h=>exact CallV.plain (Ent.of Try.func38 (by kernel_rfl) rfl) (hcf) (by simp [AV.okB])))))));all_goals ((try simp only [ThenA,InBlock,reduceIte,Nat.reduceEqDiff]);(try ((repeat ((fail_if_success (refine hK _ ?_));clear hK K));refine hK _ ?_;clear hK K)))
            all_goals repeat' (first|refine T.seqK fun K hK=>?_|refine T.block ?_|(refine T.reg (by kernel_rfl) fun K' hK'=>?_;simp only [startSt,frOf,List.map_cons,List.map_nil];(repeat' (first|(with_reducible refine WL.fin ?_;refine hK' _ ?_;clear hK' K')|((with_reducible refine WL.step fun K2 hK2=>?_);simp only [simprocAttr,implies_true,amz,tys,hm0,hm1,hm2,rowQ_len];(repeat' (first|with_reducible (first|(refine hK2 _ ?_;clear hK2 K2)|refine And.intro ?_ ?_|intro hb) ))))))|refine T.skip ?_|refine T.exit ?_|refine T.condT rfl ?_|refine T.condF rfl ?_|refine T.cond rfl (fun hc=>?_) (fun hc=>?_)|refine T.ret ?_|simp only [ThenA,InBlock,reduceIte,Nat.reduceEqDiff]|((repeat ((fail_if_success (refine hK _ ?_));clear hK K));refine hK _ ?_;clear hK K))
            refine hKL2 _ (k + 1) ?_ (by omega) (by omega)
            rw [hnext,hp,if_pos rfl,← hsn]
            refine Weak.of' rfl ?_;simp only [wks,reduceIte,Nat.reduceEqDiff,ASt.okB,AV.okB,Nat.reduceLT,implies_true,wrap_succ (show k < 1152921504606846976 by omega)]
          | false =>
            rw [hcl] at hcf
            have hp:racP l k j=false:=by simp [racP,hcl]
            repeat' (first|refine T.seqK fun K hK=>?_|refine T.block ?_|(refine T.reg (by kernel_rfl) fun K' hK'=>?_;simp only [startSt,frOf,List.map_cons,List.map_nil];(repeat' (first|(with_reducible refine WL.fin ?_;refine hK' _ ?_;clear hK' K')|((with_reducible refine WL.step fun K2 hK2=>?_);simp only [simprocAttr,implies_true,amz,tys,hd2,m2,bvC];(repeat' (first|with_reducible (first|(refine hK2 _ ?_;clear hK2 K2)|refine And.intro ?_ ?_|intro hb) ))))))|refine T.skip ?_|refine T.exit ?_|refine T.condT rfl ?_|refine T.condF rfl ?_|refine T.cond rfl (fun hc=>?_) (fun hc=>?_)|refine T.ret ?_|simp only [ThenA,InBlock,reduceIte,Nat.reduceEqDiff]|((repeat ((fail_if_success (refine hK _ ?_));clear hK K));refine hK _ ?_;clear hK K))
            refine T.drw 11 (by kernel_rfl) (by kernel_rfl) fun K' hK'=>?_;simp only [List.map_cons,List.map_nil];(repeat' (first|(with_reducible refine WL.fin ?_;refine hK' _ ?_;clear hK' K')|(with_reducible refine WD.fin ?_)|((with_reducible first|refine WL.step fun K2 hK2=>?_|refine WD.step fun K2 hK2=>?_);simp only [simprocAttr,implies_true,amz,tys,hx,hy,evC];(repeat' (first|with_reducible (first|(refine hK2 _ ?_;clear hK2 K2)|refine And.intro ?_ ?_|intro hb)|((first|(with_reducible apply callArmO)|(with_reducible apply callArm));case h=>exact CallV.plain (Ent.of Try.func38 (by kernel_rfl) rfl) (hcf) (by simp [AV.okB])))))));all_goals ((try simp only [ThenA,InBlock,reduceIte,Nat.reduceEqDiff]);(try ((repeat ((fail_if_success (refine hK _ ?_));clear hK K));refine hK _ ?_;clear hK K)))
            all_goals repeat' (first|refine T.seqK fun K hK=>?_|refine T.block ?_|(refine T.reg (by kernel_rfl) fun K' hK'=>?_;simp only [startSt,frOf,List.map_cons,List.map_nil];(repeat' (first|(with_reducible refine WL.fin ?_;refine hK' _ ?_;clear hK' K')|((with_reducible refine WL.step fun K2 hK2=>?_);simp only [simprocAttr,implies_true,amz,tys];(repeat' (first|with_reducible (first|(refine hK2 _ ?_;clear hK2 K2)|refine And.intro ?_ ?_|intro hb) ))))))|refine T.skip ?_|refine T.exit ?_|refine T.condT rfl ?_|refine T.condF rfl ?_|refine T.cond rfl (fun hc=>?_) (fun hc=>?_)|refine T.ret ?_|simp only [ThenA,InBlock,reduceIte,Nat.reduceEqDiff]|((repeat ((fail_if_success (refine hK _ ?_));clear hK K));refine hK _ ?_;clear hK K))
            refine hKL2 _ (k + 1) ?_ (by omega) (by omega)
            rw [hnext,hp,if_neg (by simp),List.append_nil]
            refine Weak.of' rfl ?_;simp only [wks,reduceIte,Nat.reduceEqDiff,ASt.okB,AV.okB,Nat.reduceLT,implies_true,wrap_succ (show k < 1152921504606846976 by omega)]
      · have hd2:decide ((k:Int) < ((j + 1:Nat):Int))=false:=by simp;omega
        have hke:k=j + 1:=by omega
        subst hke
        repeat' (first|refine T.seqK fun K hK=>?_|refine T.block ?_|(refine T.reg (by kernel_rfl) fun K' hK'=>?_;simp only [startSt,frOf,List.map_cons,List.map_nil];(repeat' (first|(with_reducible refine WL.fin ?_;refine hK' _ ?_;clear hK' K')|((with_reducible refine WL.step fun K2 hK2=>?_);simp only [simprocAttr,implies_true,amz,tys,hd2];(repeat' (first|with_reducible (first|(refine hK2 _ ?_;clear hK2 K2)|refine And.intro ?_ ?_|intro hb) ))))))|refine T.skip ?_|refine T.exit ?_|refine T.condT rfl ?_|refine T.condF rfl ?_|refine T.cond rfl (fun hc=>?_) (fun hc=>?_)|refine T.ret ?_|simp only [ThenA,InBlock,reduceIte,Nat.reduceEqDiff]|((repeat ((fail_if_success (refine hK _ ?_));clear hK K));refine hK _ ?_;clear hK K))
        refine hKL _ (j + 1) ?_ (by omega) (by omega)
        rw [prU]
        refine Weak.of' rfl ?_;simp only [wks,reduceIte,Nat.reduceEqDiff,ASt.okB,AV.okB,Nat.reduceLT,implies_true,wrap_succ (show j < 1152921504606846976 by omega)]
    · have hd:decide ((j:Int) < (n:Int))=false:=by simpa using hjn
      have hje:n=j:=by omega
      subst hje
      repeat' (first|refine T.seqK fun K hK=>?_|refine T.block ?_|(refine T.reg (by kernel_rfl) fun K' hK'=>?_;simp only [startSt,frOf,List.map_cons,List.map_nil];(repeat' (first|(with_reducible refine WL.fin ?_;refine hK' _ ?_;clear hK' K')|((with_reducible refine WL.step fun K2 hK2=>?_);simp only [simprocAttr,implies_true,amz,tys,hd];(repeat' (first|with_reducible (first|(refine hK2 _ ?_;clear hK2 K2)|refine And.intro ?_ ?_|intro hb) ))))))|refine T.skip ?_|refine T.exit ?_|refine T.condT rfl ?_|refine T.condF rfl ?_|refine T.cond rfl (fun hc=>?_) (fun hc=>?_)|refine T.ret ?_|simp only [ThenA,InBlock,reduceIte,Nat.reduceEqDiff]|((repeat ((fail_if_success (refine hK _ ?_));clear hK K));refine hK _ ?_;clear hK K))
      refine FinA.retW (.inr rfl) Try.results24 (Weak.frz _ 0) ?_;simp only [ares,aresL,ares1,ASt.frz,ASt.subst,AO.sub_box,AO.sub_row,AO.sub_map,AO.sub_raw,AO.sub_lrec,AV.sub_p,AV.sub_elt,AV.sub_ptr,AV.sub_rptr,AV.sub_own,AV.sub_junk,AV.sub_cap0,AV.sub_agg,AV.sub_fn,AV.sub_tup,List.filter_cons,List.filter_nil,bne_self_eq_false,Nat.reduceBneDiff,Nat.reduceEqDiff,Bool.false_eq_true,simprocAttr,implies_true,amz,tys]
end Go.Proofs.Ytnckehomadnhoaa
namespace Go.Proofs.Ytnckehomadnhoaa
open Go.RowKit Go.Sort Go.Maps
set_option linter.unusedSimpArgs false
set_option linter.unusedVariables false
def befR (l:List Ev) (i j:Int):Bool:=(checkB l).2 && !(decide (i < 0)) && !(decide (j < 0)) && !(decide ((l.length:Int)≤i)) && !(decide ((l.length:Int)≤j)) && hbB l j.toNat i.toNat
def hbM (l:List Ev):Nat→Nat→Bool:=fun a b=>hbB l b a
def coneR (l:List Ev) (j:Int):List Nat:=if (checkB l).2 && !(decide (j < 0)) && !(decide ((l.length:Int)≤j)) then rgF (hbB l j.toNat) j.toNat ++ [j.toNat] else []
end Go.Proofs.Ytnckehomadnhoaa
namespace Go.Proofs.Ytnckehomadnhoaa
open Go.RowKit Go.Sort Go.Maps
set_option linter.unusedSimpArgs false
set_option linter.unusedVariables false
def racR (l:List Ev) (i j:Nat):Bool:=confL l i j && !hbM l i j
def racesR (l:List Ev):List (Nat × Nat):=if (checkB l).2 then prU (racR l) (fun j=>j) l.length else []
def rowE (r:List Ed):List (List PV):=r.map edC
theorem rowE_at {r:List Ed} {k:Nat} {x:Ed} (h:r[k]? = some x):(rowE r)[k]? = some (edC x):=by
  unfold rowE;rw [List.getElem?_map,h];rfl
end Go.Proofs.Ytnckehomadnhoaa
namespace Go.Proofs.Ytnckehomadnhoaa
open Go.RowKit Go.Sort Go.Maps
set_option linter.unusedSimpArgs false
set_option linter.unusedVariables false
def kdL (l:List Ev) (i j:Nat):Int:=match l[i]?,l[j]? with
  | some x,some y=>if progB l x y i j then 0 else y.kind
  | _,_ => 0
theorem kdL_eq {l:List Ev} {i j:Nat} {x y:Ev} (hx:l[i]? = some x) (hy:l[j]? = some y):kdL l i j=if progB l x y i j then 0 else y.kind:=by simp [kdL,hx,hy]
def edJ (l:List Ev) (j:Nat):Nat→List Ed
  | 0 => []
  | k + 1=>edJ l j k ++ if immL l k j then [⟨k,j,kdL l k j⟩] else []
def edU (l:List Ev):Nat→List Ed
  | 0 => []
  | j + 1=>edU l j ++ edJ l j j
theorem rowE_len (r:List Ed):(rowE r).length=r.length:=by simp [rowE]
theorem rowE_snoc (r:List Ed) (x:Ed):rowE r ++ [[PV.val (.int .i64 x.f),.val (.int .i64 x.t),.val (.int .i64 x.k)]]=rowE (r ++ [x]):=by simp [rowE,edC]
theorem nilE:rowE [] = []:=rfl
def edgesE (l:List Ev):List Ed:=if (checkB l).2 then edU l l.length else []
def errE (l:List Ev):Int:=if (checkB l).2 then 0 else 1
end Go.Proofs.Ytnckehomadnhoaa
namespace Go.Proofs.Ytnckehomadnhoaa
open Go.RowKit Go.Sort
set_option linter.unusedSimpArgs false
set_option linter.unusedVariables false
set_option linter.unusedSectionVars false
theorem lastI_iff {l:List Ev} {p:Ev→Bool} : ∀ {j i:Nat},lastI l p j=some i↔i < j∧(l[i]?).any p=true ∧ ∀ k,i < k→k < j→(l[k]?).any p=false
  | 0,i=>by simp [lastI]
  | j + 1,i=>by
    rw [lastI]
    cases h:(l[j]?).any p with
    | true =>
      simp only [if_true,Option.some.injEq]
      constructor
      · rintro rfl;exact ⟨Nat.lt_succ_self _,h,fun k h1 h2=>by omega⟩
      · rintro ⟨h1,h2,h3⟩
        by_cases e:i=j
        · exact e.symm
        · have:=h3 j (by omega) (Nat.lt_succ_self _);rw [h] at this;cases this
    | false =>
      simp only [Bool.false_eq_true,if_false]
      rw [lastI_iff]
      constructor
      · rintro ⟨h1,h2,h3⟩
        refine ⟨by omega,h2,fun k h4 h5=>?_⟩
        by_cases e:k=j
        · rw [e];exact h
        · exact h3 k h4 (by omega)
      · rintro ⟨h1,h2,h3⟩
        have:i ≠ j:=fun e=>by rw [e,h] at h2;cases h2
        exact ⟨by omega,h2,fun k h4 h5=>h3 k h4 (by omega)⟩
theorem lastI_none {l:List Ev} {p:Ev→Bool} : ∀ {j:Nat},lastI l p j=none ↔ ∀ k,k < j→(l[k]?).any p=false
  | 0=>by simp [lastI]
  | j + 1=>by
    rw [lastI]
    cases h:(l[j]?).any p with
    | true =>
      simp only [if_true]
      constructor
      · intro h1;cases h1
      · intro h1;have:=h1 j (Nat.lt_succ_self _);rw [h] at this;cases this
    | false =>
      simp only [Bool.false_eq_true,if_false]
      rw [lastI_none]
      constructor
      · intro h1 k hk
        by_cases e:k=j
        · rw [e];exact h
        · exact h1 k (by omega)
      · intro h1 k hk;exact h1 k (by omega)
theorem mid_any {l:List Ev} {p:Ev→Bool} {i j:Nat} : ((l.take j).drop (i + 1)).any p=false ↔ ∀ k,i < k→k < j→(l[k]?).any p=false:=by
  rw [List.any_eq_false]
  constructor
  · intro h k h1 h2
    cases hk:l[k]? with
    | none=>rfl
    | some z =>
      have hm:z ∈ (l.take j).drop (i + 1):=List.mem_iff_getElem?.2 ⟨k - (i + 1),by rw [List.getElem?_drop,show i + 1 + (k - (i + 1))=k by omega,List.getElem?_take,if_pos h2,hk]⟩
      have:=h z hm
      simpa using this
  · intro h z hz
    obtain ⟨q,hq⟩:=List.mem_iff_getElem?.1 hz
    rw [List.getElem?_drop,List.getElem?_take] at hq
    split at hq
    · rename_i hlt
      have:=h (i + 1 + q) (by omega) hlt
      rw [hq] at this
      simpa using this
    · cases hq
theorem take_any {l:List Ev} {p:Ev→Bool} {j:Nat} : (l.take j).any p=false ↔ ∀ k,k < j→(l[k]?).any p=false:=by
  rw [List.any_eq_false]
  constructor
  · intro h k h2
    cases hk:l[k]? with
    | none=>rfl
    | some z =>
      have hm:z ∈ l.take j:=List.mem_iff_getElem?.2 ⟨k,by rw [List.getElem?_take,if_pos h2,hk]⟩
      have:=h z hm
      simpa using this
  · intro h z hz
    obtain ⟨q,hq⟩:=List.mem_iff_getElem?.1 hz
    rw [List.getElem?_take] at hq
    split at hq
    · rename_i hlt
      have:=h q hlt
      rw [hq] at this
      simpa using this
    · cases hq
section
variable {l:List Ev} {i j:Nat} {x y:Ev} (hx:l[i]? = some x) (hy:l[j]? = some y) (hij:i < j)
include hx hij
theorem lastG_iff:lastI l (fun d=>d.g == y.g) j=some i↔progB l x y i j=true:=by
  rw [lastI_iff,progB,Bool.and_eq_true,Bool.not_eq_true',Bool.not_eq_true',hx]
  simp only [Option.any_some,beq_iff_eq,bne_eq_false_iff_eq,hij,true_and]
  constructor
  · rintro ⟨h1,h2⟩
    refine ⟨h1,mid_any.2 fun k h3 h4=>?_⟩
    rw [h1];exact h2 k h3 h4
  · rintro ⟨h1,h2⟩
    refine ⟨h1,fun k h3 h4=>?_⟩
    rw [← h1];exact mid_any.1 h2 k h3 h4
theorem lastW_iff:lastI l (wrAt y.obj y.off) j=some i↔wrAt y.obj y.off x=true∧atomB l y i j=true:=by
  rw [lastI_iff,atomB,Bool.not_eq_true',hx]
  simp only [Option.any_some,hij,true_and]
  have:writesB y=wrAt y.obj y.off:=rfl
  rw [this,mid_any]
theorem relsW_iff (k:Int):(⟨i,j,k⟩ : Ed) ∈ relsW l y j↔k=y.kind∧rdK y.kind=true∧wrAt y.obj y.off x=true∧atomB l y i j=true:=by
  rw [← lastW_iff hx hij]
  unfold relsW
  cases h:lastI l (wrAt y.obj y.off) j with
  | none=>simp
  | some a =>
    simp only [Option.some.injEq]
    split
    · rename_i hr
      rw [List.mem_singleton]
      simp only [Ed.mk.injEq,Int.natCast_inj,true_and]
      constructor
      · rintro ⟨h1,h2⟩;exact ⟨h2,hr,h1.symm⟩
      · rintro ⟨h1,_,h2⟩;exact ⟨h2.symm,h1⟩
    · rename_i hr
      simp [hr]
theorem relsI_iff (k:Int):(⟨i,j,k⟩ : Ed) ∈ relsI l y j (atL l y.obj y.off j)↔k=y.kind∧pubAt y.obj y.off x=true∧meetsB x y=true:=by
  unfold relsI atL
  rw [List.mem_map]
  constructor
  · rintro ⟨a,ha,he⟩
    simp only [Ed.mk.injEq,Int.natCast_inj,true_and] at he
    obtain ⟨rfl,rfl⟩:=he
    obtain ⟨h1,h2⟩:=List.mem_filter.1 ha
    obtain ⟨_,h3⟩:=List.mem_filter.1 h1
    rw [hx,Option.any_some] at h2 h3
    exact ⟨rfl,h3,h2⟩
  · rintro ⟨rfl,h1,h2⟩
    exact ⟨i,List.mem_filter.2 ⟨List.mem_filter.2 ⟨List.mem_range.2 hij,by rw [hx];exact h1⟩,by rw [hx];exact h2⟩,rfl⟩
include hy
theorem relsA_iff (hv:(checkB l).2=true) (k:Int):(⟨i,j,k⟩ : Ed) ∈ relsA l y j↔(k=0∧progB l x y i j=true)∨(k=y.kind∧stgoB l x y j=true):=by
  have hfirst:firstB l y j=true↔lastI l (fun d=>d.g == y.g) j=none:=by
    rw [lastI_none,firstB,Bool.not_eq_true',take_any]
  unfold relsA
  cases h:lastI l (fun d=>d.g == y.g) j with
  | some a =>
    have hnf:firstB l y j=false:=by
      cases hf:firstB l y j with
      | false=>rfl
      | true=>rw [hfirst.1 hf] at h;cases h
    simp only [stgoB,hnf,Bool.and_false,Bool.false_eq_true,and_false,or_false]
    rw [← lastG_iff hx hij,h,List.mem_singleton]
    simp only [Ed.mk.injEq,Int.natCast_inj,true_and,Option.some.injEq]
    constructor
    · rintro ⟨h1,h2⟩;exact ⟨h2,h1.symm⟩
    · rintro ⟨h1,h2⟩;exact ⟨h2.symm,h1⟩
  | none =>
    have hf:=hfirst.2 h
    have hnp:progB l x y i j=false:=by
      cases hp:progB l x y i j with
      | false=>rfl
      | true=>rw [← lastG_iff hx hij,h] at hp;cases hp
    simp only [hnp,Bool.false_eq_true,and_false,false_or,stgoB,hf,Bool.and_true]
    have hs:lastI l (startsAt y.g) j=some i↔((x.kind == 14) && (x.k == y.g))=true:=by
      rw [lastI_iff,hx]
      simp only [Option.any_some,hij,true_and]
      constructor
      · rintro ⟨h1,_⟩;exact h1
      · intro h1
        refine ⟨h1,fun q h2 h3=>?_⟩
        cases hz:l[q]? with
        | none=>rfl
        | some z =>
          rw [Option.any_some]
          cases hb:startsAt y.g z with
          | false=>rfl
          | true =>
            simp only [startsAt,Bool.and_eq_true,beq_iff_eq] at h1 hb
            exact absurd (h1.2.trans hb.2.symm) (starts_ne hv h2 hx hz h1.1 hb.1)
    rw [← hs]
    cases h2:lastI l (startsAt y.g) j with
    | none=>simp
    | some a =>
      simp only [List.mem_singleton,Ed.mk.injEq,Int.natCast_inj,true_and,Option.some.injEq]
      constructor
      · rintro ⟨h1,h2⟩;exact ⟨h2,h1.symm⟩
      · rintro ⟨h1,h2⟩;exact ⟨h2.symm,h1⟩
theorem knd_iff (hv:(checkB l).2=true):((pubAt y.obj y.off x=true∧meetsB x y=true)∨(rdK y.kind=true∧wrAt y.obj y.off x=true∧atomB l y i j=true))↔((x.obj != y.obj) || (x.off != y.off))=false∧kndB l x y i j=true:=by
  have hn:x.kind=17→y.kind=16→x.obj=y.obj→x.n=y.n:=fun h1 h2 h3=>caps_eq hv hij hx hy (by simp [channelB,h1]) (by simp [channelB,h2]) h3
  simp only [Bool.or_eq_false_iff,bne_eq_false_iff_eq]
  by_cases ho:x.obj=y.obj
  · by_cases hf:x.off=y.off
    · simp only [pubAt,wrAt,ho,hf,beq_self_eq_true,Bool.and_true,true_and,pubK,meetsB,sndzB,frezB,rdK,kndB]
      by_cases k15:x.kind=15
      · simp [k15,aftB,Bool.beq_comm]
      by_cases k17:x.kind=17
      · simp [k17,aftB]
        intro h1
        rw [hn k17 h1 ho]
      by_cases k19:x.kind=19
      · simp [k19,aftB]
      by_cases k7:x.kind=7
      · simp [k7,aftB]
      by_cases k9:x.kind=9
      · simp [k9,aftB]
      by_cases k10:x.kind=10
      · simp [k10,aftB]
      by_cases k12:x.kind=12
      · simp [k12,aftB]
      by_cases k4:x.kind=4
      · simp [k4,aftB]
      by_cases k5:x.kind=5
      · simp [k5,aftB]
      simp [k15,k17,k19,k7,k9,k10,k12,k4,k5,aftB]
    · simp [pubAt,wrAt,hf]
  · simp [pubAt,wrAt,ho]
theorem relsJ_iff (hv:(checkB l).2=true) (k:Int):(⟨i,j,k⟩ : Ed) ∈ relsJ l y j↔(k=0∧progB l x y i j=true)∨(k=y.kind∧(stgoB l x y j=true∨(((x.obj != y.obj) || (x.off != y.off))=false∧kndB l x y i j=true))):=by
  unfold relsJ
  rw [List.mem_append,List.mem_append,relsA_iff hx hy hij hv,relsI_iff hx hij,relsW_iff hx hij,← knd_iff hx hy hij hv]
  constructor
  · rintro (((h|h)|h)|h)
    · exact .inl h
    · exact .inr ⟨h.1,.inl h.2⟩
    · exact .inr ⟨h.1,.inr (.inl h.2)⟩
    · exact .inr ⟨h.1,.inr (.inr h.2)⟩
  · rintro (h|⟨h1,h2|h2|h2⟩)
    · exact .inl (.inl (.inl h))
    · exact .inl (.inl (.inr ⟨h1,h2⟩))
    · exact .inl (.inr ⟨h1,h2⟩)
    · exact .inr ⟨h1,h2⟩
omit hij in
theorem immB_iff:immB l x y i j=true↔progB l x y i j=true∨(stgoB l x y j=true∨(((x.obj != y.obj) || (x.off != y.off))=false∧kndB l x y i j=true)):=by
  unfold immB
  cases h1:progB l x y i j with
  | true=>simp
  | false =>
    cases h2:stgoB l x y j with
    | true=>simp
    | false =>
      simp only [Bool.or_self,Bool.false_eq_true,if_false,false_or]
      split
      · rename_i h3;simp [h3]
      · rename_i h3
        have:((x.obj != y.obj) || (x.off != y.off))=false:=by simpa using h3
        simp [this]
end
theorem relsU_mem_iff {l:List Ev} : ∀ {n:Nat} {x:Ed},x ∈ relsU l n ↔ ∃ j e,j < n∧l[j]? = some e∧x ∈ relsJ l e j
  | 0,x=>by simp [relsU]
  | n + 1,x=>by
    rw [relsU,List.mem_append,relsU_mem_iff]
    constructor
    · rintro (⟨j,e,h1,h2,h3⟩|h)
      · exact ⟨j,e,by omega,h2,h3⟩
      · cases hn:l[n]? with
        | none=>rw [hn] at h;cases h
        | some e=>rw [hn] at h;exact ⟨n,e,Nat.lt_succ_self _,hn,h⟩
    · rintro ⟨j,e,h1,h2,h3⟩
      by_cases hj:j=n
      · subst hj;right;rw [h2];exact h3
      · exact .inl ⟨j,e,by omega,h2,h3⟩
end Go.Proofs.Ytnckehomadnhoaa
namespace Go.Proofs.Ytnckehomadnhoaa
open Go.RowKit Go.Sort
set_option linter.unusedSimpArgs false
set_option linter.unusedVariables false
set_option linter.unusedSectionVars false
theorem hbB_iff {l:List Ev} {m b:Nat} : hbB l m b=true ↔ ∃ i,i < m∧immL l i m=true∧(b=i∨(b < i∧hbB l i b=true)):=by
  rw [hbB_eq,colB,List.any_eq_true]
  simp only [List.mem_range,Nat.zero_le,decide_true,Bool.true_and,Bool.and_eq_true,Bool.or_eq_true,beq_iff_eq,decide_eq_true_eq]
theorem relsJ_edge {l:List Ev} {j:Nat} {e:Ev} (hy:l[j]? = some e) {x:Ed} (h:x ∈ relsJ l e j) : ∃ i:Nat,i < j∧x=⟨i,j,x.k⟩:=by
  have hm:x ∈ relsU l (j + 1):=relsU_mem_iff.2 ⟨j,e,Nat.lt_succ_self _,hy,h⟩
  unfold relsJ at h
  rcases List.mem_append.1 h with h|h
  · rcases List.mem_append.1 h with h|h
    · unfold relsA at h
      split at h
      · rename_i i hi
        rw [List.mem_singleton.1 h]
        exact ⟨i,(lastI_lt hi).1,rfl⟩
      · split at h
        · rename_i i hi
          rw [List.mem_singleton.1 h]
          exact ⟨i,(lastI_lt hi).1,rfl⟩
        · cases h
    · unfold relsI at h
      obtain ⟨i,hi,rfl⟩:=List.mem_map.1 h
      exact ⟨i,(atL_mem (List.mem_filter.1 hi).1).1,rfl⟩
  · unfold relsW at h
    split at h
    · rename_i i hi
      split at h
      · rw [List.mem_singleton.1 h]
        exact ⟨i,(lastI_lt hi).1,rfl⟩
      · cases h
    · cases h
theorem immL_edge {l:List Ev} (hv:(checkB l).2=true) {i j:Nat} {e:Ev} (hy:l[j]? = some e) (hij:i < j):immL l i j=true ↔ ∃ k,(⟨i,j,k⟩ : Ed) ∈ relsJ l e j:=by
  have hjl:=(List.getElem?_eq_some_iff.1 hy).1
  obtain ⟨x,hx⟩:=at_lt (show i < l.length by omega)
  rw [immL_eq hx hy,immB_iff hx hy]
  constructor
  · rintro (h|h)
    · exact ⟨0,(relsJ_iff hx hy hij hv 0).2 (.inl ⟨rfl,h⟩)⟩
    · exact ⟨e.kind,(relsJ_iff hx hy hij hv e.kind).2 (.inr ⟨rfl,h⟩)⟩
  · rintro ⟨k,hk⟩
    rcases (relsJ_iff hx hy hij hv k).1 hk with h|h
    · exact .inl h.2
    · exact .inr h.2
theorem fold_row {m:Nat} : ∀ (S:List Ed) (f:Nat→Nat→Bool),(∀ x ∈ S,∃ i:Nat,i < m∧x=⟨i,m,x.k⟩) → ∀ a b,S.foldl addE f a b=if a=m then f m b || S.any (fun x=>decide (b≤x.f.toNat) && f x.f.toNat b) else f a b
  | [],f,_,a,b=>by
    simp only [List.foldl_nil,List.any_nil,Bool.or_false]
    split
    · rename_i h;rw [h]
    · rfl
  | x :: S,f,h,a,b=>by
    obtain ⟨i,hi,hxe⟩:=h x (by simp)
    have hf:x.f.toNat=i:=by rw [hxe];simp
    have ht:x.t.toNat=m:=by rw [hxe];simp
    have hadd : ∀ c,c ≠ m→addE f x c=f c:=fun c hc=>by funext d;simp only [addE];rw [ht,if_neg hc]
    have haddm : ∀ d,addE f x m d=(f m d || (decide (d≤i) && f i d)):=fun d=>by simp only [addE];rw [ht,if_pos rfl,hf]
    rw [List.foldl_cons,fold_row S (addE f x) (fun y hy=>h y (by simp [hy])) a b]
    split
    · rw [haddm,List.any_cons,hf,Bool.or_assoc]
      congr 2
      apply Bool.eq_iff_iff.2
      rw [List.any_eq_true,List.any_eq_true]
      have : ∀ y ∈ S,addE f x y.f.toNat b=f y.f.toNat b:=fun y hy=>by
        obtain ⟨q,hq,hye⟩:=h y (by simp [hy])
        rw [hadd _ (by rw [hye];simp;omega)]
      constructor
      · rintro ⟨y,hy,h2⟩;exact ⟨y,hy,by rw [← this y hy];exact h2⟩
      · rintro ⟨y,hy,h2⟩;exact ⟨y,hy,by rw [this y hy];exact h2⟩
    · rename_i hne;rw [hadd a hne]
theorem fC_eq {l:List Ev} (hv:(checkB l).2=true) : ∀ m,m≤l.length → ∀ a b,b≤a→fC (relsU l m) a b=((b == a) || (decide (a < m) && hbB l a b))
  | 0,_,a,b,_=>by simp [relsU,fC,idM]
  | m + 1,hm,a,b,hba=>by
    obtain ⟨e,hy⟩:=at_lt (show m < l.length by omega)
    have ih:=fC_eq hv m (by omega)
    rw [relsU_succ hy,fC,List.foldl_append]
    change (relsJ l e m).foldl addE (fC (relsU l m)) a b=_
    rw [fold_row _ _ (fun x hx=>relsJ_edge hy hx)]
    split
    · rename_i ham
      subst ham
      rw [ih a b hba,show decide (a < a)=false by simp,Bool.false_and,Bool.or_false,show decide (a < a + 1)=true by simp,Bool.true_and]
      congr 1
      apply Bool.eq_iff_iff.2
      rw [List.any_eq_true,hbB_iff]
      constructor
      · rintro ⟨x,hx,h⟩
        obtain ⟨i,hi,hxe⟩:=relsJ_edge hy hx
        rw [hxe] at h hx
        simp only [Int.toNat_natCast,Bool.and_eq_true,decide_eq_true_eq] at h
        obtain ⟨h1,h2⟩:=h
        refine ⟨i,hi,(immL_edge hv hy hi).2 ⟨_,hx⟩,?_⟩
        rw [ih i b h1] at h2
        simp only [Bool.or_eq_true,beq_iff_eq,Bool.and_eq_true,decide_eq_true_eq] at h2
        rcases h2 with h2|⟨_,h2⟩
        · exact .inl h2
        · exact .inr ⟨hbB_lt l i b h2,h2⟩
      · rintro ⟨i,hi,him,h⟩
        obtain ⟨k,hk⟩:=(immL_edge hv hy hi).1 him
        refine ⟨_,hk,?_⟩
        have hbi:b≤i:=by rcases h with h|h <;> omega
        simp only [Int.toNat_natCast,Bool.and_eq_true,decide_eq_true_eq]
        refine ⟨hbi,?_⟩
        rw [ih i b hbi]
        simp only [Bool.or_eq_true,beq_iff_eq,Bool.and_eq_true,decide_eq_true_eq]
        rcases h with h|h
        · exact .inl h
        · exact .inr ⟨hi,h.2⟩
    · rename_i ham
      rw [ih a b hba]
      congr 2
      simp;omega
theorem cnM_eq {l:List Ev} (hv:(checkB l).2=true) {a b:Nat} (ha:a < l.length) (hb:b≤a):fC (relsU l l.length) a b=((b == a) || hbB l a b):=by
  rw [fC_eq hv _ (Nat.le_refl _) a b hb]
  simp [ha]
def cmpE (x y:Ed):Int:=if x.t ≠ y.t then x.t - y.t else if x.f ≠ y.f then x.f - y.f else x.k - y.k
def eqE (x y:Ed):Bool:=(x.f == y.f) && (x.t == y.t)
def cmpF (p:Ed):List Ed→List Ed
  | [] => []
  | y :: r=>if eqE y p then cmpF y r else y :: cmpF y r
def cmpct:List Ed→List Ed
  | [] => []
  | x :: r=>x :: cmpF x r
def kltE (x y:Ed):Prop:=x.t < y.t∨(x.t=y.t∧x.f < y.f)
theorem eqE_iff (x y:Ed):eqE x y=true↔x.f=y.f∧x.t=y.t:=by simp [eqE]
theorem cmp_le {x y:Ed} : ¬ cmpE y x < 0↔kltE x y∨(x.t=y.t∧x.f=y.f∧x.k≤y.k):=by
  unfold cmpE kltE
  split
  · omega
  · split
    · omega
    · omega
theorem strict_ext {A B:List Ed} (hA:A.Pairwise kltE) (hB:B.Pairwise kltE) (h : ∀ x,x ∈ A↔x ∈ B):A=B:=by
  induction A generalizing B with
  | nil =>
    cases B with
    | nil=>rfl
    | cons b r=>have:=(h b).2 (by simp);cases this
  | cons a A ih =>
    cases B with
    | nil=>have:=(h a).1 (by simp);cases this
    | cons b B =>
      obtain ⟨a1,a2⟩:=List.pairwise_cons.1 hA
      obtain ⟨b1,b2⟩:=List.pairwise_cons.1 hB
      have hab:a=b:=by
        rcases List.mem_cons.1 ((h a).1 (by simp)) with e|e
        · exact e
        · rcases List.mem_cons.1 ((h b).2 (by simp)) with e'|e'
          · exact e'.symm
          · have h1:=b1 a e
            have h2:=a1 b e'
            unfold kltE at h1 h2
            omega
      subst hab
      congr 1
      refine ih a2 b2 fun x=>?_
      have hne : ∀ y,kltE a y→y ≠ a:=fun y hy e=>by subst e;unfold kltE at hy;omega
      constructor
      · intro hx
        rcases List.mem_cons.1 ((h x).1 (by simp [hx])) with e|e
        · exact absurd e (hne x (a1 x hx))
        · exact e
      · intro hx
        rcases List.mem_cons.1 ((h x).2 (by simp [hx])) with e|e
        · exact absurd e (hne x (b1 x hx))
        · exact e
theorem cmpF_mem : ∀ {r:List Ed} {p:Ed},(p :: r).Pairwise (fun x y => ¬ cmpE y x < 0) → ∀ x,x ∈ cmpF p r↔x ∈ r∧eqE x p=false ∧ ∀ z ∈ r,eqE z x=true→x.k≤z.k
  | [],p,_,x=>by simp [cmpF]
  | y :: r,p,h,x=>by
    obtain ⟨h1,h2⟩:=List.pairwise_cons.1 h
    obtain ⟨h3,h4⟩:=List.pairwise_cons.1 h2
    have ih:=cmpF_mem h2 x
    have hpy:=cmp_le.1 (h1 y (by simp))
    have hne : ∀ {a b:Ed},eqE a b=false ↔ ¬ (a.f=b.f∧a.t=b.t):=fun {a b}=>by rw [← eqE_iff];simp
    rw [cmpF]
    split
    · rename_i he
      have he':=(eqE_iff _ _).1 he
      rw [ih]
      constructor
      · rintro ⟨q1,q2,q3⟩
        have q2':=hne.1 q2
        refine ⟨by simp [q1],hne.2 (by omega),fun z hz hzx=>?_⟩
        rcases List.mem_cons.1 hz with rfl|hz
        · have:=(eqE_iff _ _).1 hzx;omega
        · exact q3 z hz hzx
      · rintro ⟨q1,q2,q3⟩
        have q2':=hne.1 q2
        rcases List.mem_cons.1 q1 with rfl|q1
        · omega
        · exact ⟨q1,hne.2 (by omega),fun z hz=>q3 z (by simp [hz])⟩
    · rename_i he
      have he' : ¬ (y.f=p.f∧y.t=p.t):=fun h=>he ((eqE_iff _ _).2 h)
      rw [List.mem_cons,ih]
      have hk:kltE p y:=by rcases hpy with h|h;exact h;omega
      constructor
      · rintro (rfl|⟨q1,q2,q3⟩)
        · refine ⟨by simp,hne.2 he',fun z hz hzx=>?_⟩
          have hzx':=(eqE_iff _ _).1 hzx
          rcases List.mem_cons.1 hz with rfl|hz
          · exact Int.le_refl _
          · have:=cmp_le.1 (h3 z hz);unfold kltE at this;omega
        · have hyx:=cmp_le.1 (h3 x q1)
          have q2':=hne.1 q2
          unfold kltE at hk hyx
          refine ⟨by simp [q1],hne.2 (by omega),fun z hz hzx=>?_⟩
          have hzx':=(eqE_iff _ _).1 hzx
          rcases List.mem_cons.1 hz with rfl|hz
          · omega
          · exact q3 z hz hzx
      · rintro ⟨q1,q2,q3⟩
        rcases List.mem_cons.1 q1 with rfl|q1
        · exact .inl rfl
        · by_cases hxy:x.f=y.f∧x.t=y.t
          · left
            have h5:=q3 y (by simp) ((eqE_iff _ _).2 ⟨hxy.1.symm,hxy.2.symm⟩)
            have h6:=cmp_le.1 (h3 x q1)
            unfold kltE at h6
            obtain ⟨xf,xt,xk⟩:=x
            obtain ⟨yf,yt,yk⟩:=y
            simp only at h5 h6 hxy
            have:xk=yk:=by omega
            simp [hxy.1,hxy.2,this]
          · exact .inr ⟨q1,hne.2 hxy,fun z hz=>q3 z (by simp [hz])⟩
theorem cmpF_sorted : ∀ {r:List Ed} {p:Ed},(p :: r).Pairwise (fun x y => ¬ cmpE y x < 0)→(p :: cmpF p r).Pairwise kltE
  | [],p,_=>by simp [cmpF]
  | y :: r,p,h=>by
    obtain ⟨h1,h2⟩:=List.pairwise_cons.1 h
    have ih:=cmpF_sorted h2
    refine List.pairwise_cons.2 ⟨fun x hx=>?_,?_⟩
    · obtain ⟨q1,q2,_⟩:=(cmpF_mem h x).1 hx
      have q2' : ¬ (x.f=p.f∧x.t=p.t):=fun e=>by rw [(eqE_iff _ _).2 e] at q2;cases q2
      rcases cmp_le.1 (h1 x q1) with h3|h3
      · exact h3
      · omega
    · rw [cmpF]
      split
      · exact (List.pairwise_cons.1 ih).2
      · exact ih
theorem cmpct_mem {S:List Ed} (h:S.Pairwise (fun x y => ¬ cmpE y x < 0)) (x:Ed):x ∈ cmpct S↔x ∈ S ∧ ∀ z ∈ S,eqE z x=true→x.k≤z.k:=by
  cases S with
  | nil=>simp [cmpct]
  | cons p r =>
    rw [cmpct,List.mem_cons,cmpF_mem h]
    obtain ⟨h1,h2⟩:=List.pairwise_cons.1 h
    constructor
    · rintro (rfl|⟨q1,q2,q3⟩)
      · refine ⟨by simp,fun z hz hzx=>?_⟩
        have hzx':=(eqE_iff _ _).1 hzx
        rcases List.mem_cons.1 hz with rfl|hz
        · exact Int.le_refl _
        · have:=cmp_le.1 (h1 z hz);unfold kltE at this;omega
      · refine ⟨by simp [q1],fun z hz hzx=>?_⟩
        rcases List.mem_cons.1 hz with rfl|hz
        · have hzx':=(eqE_iff _ _).1 hzx
          have:eqE x z=true:=(eqE_iff _ _).2 ⟨hzx'.1.symm,hzx'.2.symm⟩
          rw [this] at q2;cases q2
        · exact q3 z hz hzx
    · rintro ⟨q1,q3⟩
      by_cases hxp:x.f=p.f∧x.t=p.t
      · left
        have h5:=q3 p (by simp) ((eqE_iff _ _).2 ⟨hxp.1.symm,hxp.2.symm⟩)
        rcases List.mem_cons.1 q1 with e|e
        · exact e
        · have h6:=cmp_le.1 (h1 x e)
          unfold kltE at h6
          obtain ⟨xf,xt,xk⟩:=x
          obtain ⟨yf,yt,yk⟩:=p
          simp only at h5 h6 hxp
          have:xk=yk:=by omega
          simp [hxp.1,hxp.2,this]
      · right
        rcases List.mem_cons.1 q1 with e|e
        · subst e;exact absurd ⟨rfl,rfl⟩ hxp
        · refine ⟨e,?_,fun z hz=>q3 z (by simp [hz])⟩
          cases he:eqE x p with
          | false=>rfl
          | true=>exact absurd ((eqE_iff _ _).1 he) hxp
theorem cmpct_sorted {S:List Ed} (h:S.Pairwise (fun x y => ¬ cmpE y x < 0)):(cmpct S).Pairwise kltE:=by
  cases S with
  | nil=>simp [cmpct]
  | cons p r=>exact cmpF_sorted h
theorem edJ_mem {l:List Ev} {j:Nat} : ∀ {k:Nat} {x:Ed},x ∈ edJ l j k ↔ ∃ i,i < k∧immL l i j=true∧x=⟨i,j,kdL l i j⟩
  | 0,x=>by simp [edJ]
  | k + 1,x=>by
    rw [edJ,List.mem_append,edJ_mem]
    constructor
    · rintro (⟨i,h1,h2⟩|h)
      · exact ⟨i,by omega,h2⟩
      · split at h
        · rename_i him;exact ⟨k,Nat.lt_succ_self _,him,List.mem_singleton.1 h⟩
        · cases h
    · rintro ⟨i,h1,h2,h3⟩
      by_cases e:i=k
      · subst e;right;rw [if_pos h2];exact List.mem_singleton.2 h3
      · exact .inl ⟨i,by omega,h2,h3⟩
theorem edU_mem {l:List Ev} : ∀ {n:Nat} {x:Ed},x ∈ edU l n ↔ ∃ j i,j < n∧i < j∧immL l i j=true∧x=⟨i,j,kdL l i j⟩
  | 0,x=>by simp [edU]
  | n + 1,x=>by
    rw [edU,List.mem_append,edU_mem,edJ_mem]
    constructor
    · rintro (⟨j,i,h1,h2⟩|⟨i,h1,h2⟩)
      · exact ⟨j,i,by omega,h2⟩
      · exact ⟨n,i,Nat.lt_succ_self _,h1,h2⟩
    · rintro ⟨j,i,h1,h2,h3⟩
      by_cases e:j=n
      · subst e;exact .inr ⟨i,h2,h3⟩
      · exact .inl ⟨j,i,by omega,h2,h3⟩
theorem edJ_sorted {l:List Ev} {j:Nat} : ∀ k,(edJ l j k).Pairwise kltE
  | 0=>by simp [edJ]
  | k + 1=>by
    rw [edJ,List.pairwise_append]
    refine ⟨edJ_sorted k,?_,fun a ha b hb=>?_⟩
    · split <;> simp
    · obtain ⟨i,h1,_,rfl⟩:=edJ_mem.1 ha
      split at hb
      · rw [List.mem_singleton.1 hb];right;exact ⟨rfl,by simp only [];omega⟩
      · cases hb
theorem edU_sorted {l:List Ev} : ∀ n,(edU l n).Pairwise kltE
  | 0=>by simp [edU]
  | n + 1=>by
    rw [edU,List.pairwise_append]
    refine ⟨edU_sorted n,edJ_sorted n,fun a ha b hb=>?_⟩
    obtain ⟨j,i,h1,_,_,rfl⟩:=edU_mem.1 ha
    obtain ⟨i',_,_,rfl⟩:=edJ_mem.1 hb
    left;simp only [];omega
theorem edges_eq {l:List Ev} (hv:(checkB l).2=true) (hk : ∀ e ∈ l,0≤e.kind) {S:List Ed} (hp:S.Perm (relsU l l.length)) (hs:S.Pairwise (fun x y => ¬ cmpE y x < 0)):cmpct S=edU l l.length:=by
  refine strict_ext (cmpct_sorted hs) (edU_sorted _) fun x=>?_
  rw [cmpct_mem hs,edU_mem]
  have hmem : ∀ z,z ∈ S↔z ∈ relsU l l.length:=fun z=>hp.mem_iff
  constructor
  · rintro ⟨h1,h2⟩
    obtain ⟨j,e,hj,hy,hx⟩:=relsU_mem_iff.1 ((hmem x).1 h1)
    obtain ⟨i,hij,hxe⟩:=relsJ_edge hy hx
    obtain ⟨d,hd⟩:=at_lt (show i < l.length by omega)
    rw [hxe] at hx
    refine ⟨j,i,hj,hij,(immL_edge hv hy hij).2 ⟨_,hx⟩,?_⟩
    rw [hxe,kdL_eq hd hy]
    congr 1
    rcases (relsJ_iff hd hy hij hv x.k).1 hx with ⟨h3,h4⟩|⟨h3,h4⟩
    · rw [h3,if_pos h4]
    · rw [h3]
      split
      · rename_i hpg
        have h5:(⟨i,j,0⟩ : Ed) ∈ S:=(hmem _).2 (relsU_mem_iff.2 ⟨j,e,hj,hy,(relsJ_iff hd hy hij hv 0).2 (.inl ⟨rfl,hpg⟩)⟩)
        have h6:=h2 _ h5 ((eqE_iff _ _).2 ⟨by rw [hxe],by rw [hxe]⟩)
        simp only at h6
        have h7:=hk e (List.mem_of_getElem? hy)
        omega
      · rfl
  · rintro ⟨j,i,hj,hij,him,rfl⟩
    obtain ⟨e,hy⟩:=at_lt hj
    obtain ⟨d,hd⟩:=at_lt (show i < l.length by omega)
    have hall : ∀ z ∈ S,eqE z ⟨i,j,kdL l i j⟩=true→(z.k=0∧progB l d e i j=true)∨(z.k=e.kind∧(stgoB l d e j=true∨(((d.obj != e.obj) || (d.off != e.off))=false∧kndB l d e i j=true))):=fun z hz hze=>by
      obtain ⟨j',e',hj',hy',hz'⟩:=relsU_mem_iff.1 ((hmem z).1 hz)
      obtain ⟨i',hij',hzz⟩:=relsJ_edge hy' hz'
      have hze':=(eqE_iff _ _).1 hze
      rw [hzz] at hze'
      simp only [Int.natCast_inj] at hze'
      obtain ⟨rfl,rfl⟩:=hze'
      rw [hy] at hy'
      cases hy'
      rw [hzz] at hz'
      exact (relsJ_iff hd hy hij hv z.k).1 hz'
    refine ⟨?_,fun z hz hze=>?_⟩
    · rw [hmem]
      refine relsU_mem_iff.2 ⟨j,e,hj,hy,(relsJ_iff hd hy hij hv _).2 ?_⟩
      rw [kdL_eq hd hy]
      rw [immL_eq hd hy,immB_iff hd hy] at him
      split
      · rename_i hpg;exact .inl ⟨rfl,hpg⟩
      · rename_i hpg
        rcases him with h|h
        · exact absurd h hpg
        · exact .inr ⟨rfl,h⟩
    · rw [kdL_eq hd hy]
      rcases hall z hz hze with ⟨h3,h4⟩|⟨h3,h4⟩
      · rw [h3];simp only [];rw [if_pos h4];exact Int.le_refl _
      · rw [h3]
        have:=hk e (List.mem_of_getElem? hy)
        simp only []
        split <;> omega
end Go.Proofs.Ytnckehomadnhoaa
namespace Go.Proofs.Ytnckehomadnhoaa
open Go.RowKit Go.Sort
set_option linter.unusedSimpArgs false
set_option linter.unusedVariables false
theorem cmpF_snoc : ∀ (r:List Ed) (p y:Ed),cmpF p (r ++ [y])=cmpF p r ++ if eqE y ((p :: r).getLast (by simp)) then [] else [y]
  | [],p,y=>by
    by_cases h:eqE y p=true <;> simp [cmpF,h]
  | z :: r,p,y=>by
    rw [List.cons_append,cmpF,cmpF,List.getLast_cons (by simp)]
    split
    · rw [cmpF_snoc r z y]
    · rw [cmpF_snoc r z y];rfl
theorem cmpct_take {S:List Ed} {m:Nat} {y z:Ed} (hm : 0 < m) (hy:S[m]? = some y) (hz:S[m - 1]? = some z):cmpct (S.take (m + 1))=cmpct (S.take m) ++ if eqE y z then [] else [y]:=by
  cases S with
  | nil=>simp at hy
  | cons p r =>
    obtain ⟨q,rfl⟩ : ∃ q,m=q + 1:=⟨m - 1,by omega⟩
    rw [List.take_succ_cons,List.take_succ_cons,cmpct,cmpct,List.cons_append]
    have hy' : r[q]? = some y:=by simpa using hy
    have hql:=(List.getElem?_eq_some_iff.1 hy').1
    rw [List.take_add_one,hy',Option.toList_some,cmpF_snoc]
    congr 3
    have:(p :: r.take q).getLast (by simp)=z:=by
      have h1:(p :: r.take q)[q]? = some z:=by
        simp only [Nat.add_sub_cancel] at hz
        rw [← List.take_succ_cons,List.getElem?_take,if_pos (by omega)]
        exact hz
      rw [List.getLast_eq_getElem]
      have hlen:(p :: r.take q).length=q + 1:=by simp;omega
      have h2:=(List.getElem?_eq_some_iff.1 h1).2
      simp only [hlen,Nat.add_sub_cancel]
      exact h2
    rw [this]
theorem eqP_ok (x y:Ed):PureC Try.prog 33 [.agg ((edC x).map .p),.agg ((edC y).map .p)] (.bool (eqE x y)):=by
  simp only [edC,List.map_cons,List.map_nil]
  refine PureC.of Try.func33 rfl 17 rfl (by decide) (by simp [AV.okB]) ?_
  repeat' (first|refine T.seqK fun K hK=>?_|refine T.block ?_|(refine T.reg (by kernel_rfl) fun K' hK'=>?_;simp only [startSt,frOf,List.map_cons,List.map_nil];(repeat' (first|(with_reducible refine WL.fin ?_;refine hK' _ ?_;clear hK' K')|((with_reducible refine WL.step fun K2 hK2=>?_);simp only [simprocAttr,implies_true,amz,tys];(repeat' (first|with_reducible (first|(refine hK2 _ ?_;clear hK2 K2)|refine And.intro ?_ ?_|intro hb) ))))))|refine T.skip ?_|refine T.exit ?_|refine T.condT rfl ?_|refine T.condF rfl ?_|refine T.cond rfl (fun hc=>?_) (fun hc=>?_)|refine T.ret ?_|simp only [ThenA,InBlock,reduceIte,Nat.reduceEqDiff]|((repeat ((fail_if_success (refine hK _ ?_));clear hK K));refine hK _ ?_;clear hK K))
  all_goals (refine FinA.ret (.inr rfl) Try.results33 ?_;simp only [ares,aresL,ares1,simprocAttr,implies_true,amz,tys,];first|(simp [eqE, *];done)|(simp_all [eqE];done)|(simp_all [eqE];omega))
def cmpW (x y:Ed):Int:=if x.t ≠ y.t then IntKind.i64.wrap (x.t - y.t) else if x.f ≠ y.f then IntKind.i64.wrap (x.f - y.f) else IntKind.i64.wrap (x.k - y.k)
theorem cmpP_ok (x y:Ed):PureC Try.prog 31 [.agg ((edC x).map .p),.agg ((edC y).map .p)] (.int (cmpW x y)):=by
  simp only [edC,List.map_cons,List.map_nil]
  refine PureC.of Try.func31 rfl 30 rfl (by decide) (by simp [AV.okB]) ?_
  repeat' (first|refine T.seqK fun K hK=>?_|refine T.block ?_|(refine T.reg (by kernel_rfl) fun K' hK'=>?_;simp only [startSt,frOf,List.map_cons,List.map_nil];(repeat' (first|(with_reducible refine WL.fin ?_;refine hK' _ ?_;clear hK' K')|((with_reducible refine WL.step fun K2 hK2=>?_);simp only [simprocAttr,implies_true,amz,tys];(repeat' (first|with_reducible (first|(refine hK2 _ ?_;clear hK2 K2)|refine And.intro ?_ ?_|intro hb) ))))))|refine T.skip ?_|refine T.exit ?_|refine T.condT rfl ?_|refine T.condF rfl ?_|refine T.cond rfl (fun hc=>?_) (fun hc=>?_)|refine T.ret ?_|simp only [ThenA,InBlock,reduceIte,Nat.reduceEqDiff]|((repeat ((fail_if_success (refine hK _ ?_));clear hK K));refine hK _ ?_;clear hK K))
  all_goals (refine FinA.ret (.inr rfl) Try.results31 ?_;simp only [ares,aresL,ares1,simprocAttr,implies_true,amz,tys,];first|(simp [cmpW, *];done)|(simp_all [cmpW];done)|(simp_all [cmpW];omega))
def CmQ (S:List Ed) (hp' : Hp) (r:AV):Prop := ∃ R',hp' = [(0,.row 49 3 R')]∧((r = .own 0∧R' = rowE (cmpct S)) ∨ ∃ m,r = .pre 0 m∧m≤R'.length ∧ 0 < R'.length∧R'.take m=rowE (cmpct S))
structure C2 where
  k:Nat
  i:Nat
  R:List (List PV)
theorem rowE_at' {S:List Ed} {k:Nat} {x:Ed} (h:S[k]? = some x):(rowE S)[k]? = some [PV.val (.int .i64 x.f),.val (.int .i64 x.t),.val (.int .i64 x.k)]:=rowE_at h
set_option maxHeartbeats 16000000 in
set_option maxRecDepth 100000 in
theorem compact_ok (S:List Ed) (hS:S.length ≤ 100000000000):MemC Try.prog 32 1 [(0,.row 49 3 (rowE S))] [.own 0,.fn (.func 33) []] (CmQ S):=by
  have hRl:=rowE_len S
  by_cases h2:S.length < 2
  · have hd:decide ((S.length:Int) < 2)=true:=by simp;omega
    have hc:cmpct S=S:=by
      cases S with
      | nil=>rfl
      | cons p r=>cases r with
        | nil=>rfl
        | cons q r=>simp at h2;omega
    refine MemC.of Try.func32 rfl 66 rfl (by decide) ?_;simp only [startM,frOf]
    repeat' (first|refine T.seqK fun K hK=>?_|refine T.block ?_|(refine T.reg (by kernel_rfl) fun K' hK'=>?_;simp only [startSt,frOf,List.map_cons,List.map_nil];(repeat' (first|(with_reducible refine WL.fin ?_;refine hK' _ ?_;clear hK' K')|((with_reducible refine WL.step fun K2 hK2=>?_);simp only [simprocAttr,implies_true,amz,tys,hRl,hd];(repeat' (first|with_reducible (first|(refine hK2 _ ?_;clear hK2 K2)|refine And.intro ?_ ?_|intro hb) ))))))|refine T.skip ?_|refine T.exit ?_|refine T.condT rfl ?_|refine T.condF rfl ?_|refine T.cond rfl (fun hc=>?_) (fun hc=>?_)|refine T.ret ?_|simp only [ThenA,InBlock,reduceIte,Nat.reduceEqDiff]|((repeat ((fail_if_success (refine hK _ ?_));clear hK K));refine hK _ ?_;clear hK K))
    refine FinM.ret (s':=⟨[(4,.own 0)],[(0,.row 49 3 (rowE S))],66,1⟩) (r := .own 0) (.inr rfl) Try.results32 (by refine Weak.of' rfl ?_;simp only [wks,reduceIte,Nat.reduceEqDiff,ASt.okB,AV.okB,Nat.reduceLT,implies_true,]) rfl ?_ ?_;(focus (simp only [ares,aresL,ares1,simprocAttr,implies_true,amz,tys,];done))
    exact ⟨_,rfl,.inl ⟨rfl,by rw [hc]⟩⟩
  · have hd:decide ((S.length:Int) < 2)=false:=by simp;omega
    refine MemC.of Try.func32 rfl 66 rfl (by decide) ?_;simp only [startM,frOf]
    repeat' (first|refine T.seqK fun K hK=>?_|refine T.block ?_|(refine T.reg (by kernel_rfl) fun K' hK'=>?_;simp only [startSt,frOf,List.map_cons,List.map_nil];(repeat' (first|(with_reducible refine WL.fin ?_;refine hK' _ ?_;clear hK' K')|((with_reducible refine WL.step fun K2 hK2=>?_);simp only [simprocAttr,implies_true,amz,tys,hRl,hd];(repeat' (first|with_reducible (first|(refine hK2 _ ?_;clear hK2 K2)|refine And.intro ?_ ?_|intro hb) ))))))|refine T.skip ?_|refine T.exit ?_|refine T.condT rfl ?_|refine T.condF rfl ?_|refine T.cond rfl (fun hc=>?_) (fun hc=>?_)|refine T.ret ?_|simp only [ThenA,InBlock,reduceIte,Nat.reduceEqDiff]|((repeat ((fail_if_success (refine hK _ ?_));clear hK K));refine hK _ ?_;clear hK K))
    refine T.loopK (fun i:Nat=>⟨[(0,.own 0),(1,.fn (.func 33) []),(5,.int i)],[(0,.row 49 3 (rowE S))],66,1⟩) (fun i => 1≤i∧i≤S.length∧cmpct (S.take i)=S.take i) (fun i=>S.length - i) 1 ⟨Nat.le_refl _,by omega,?_⟩ (by refine Weak.of' rfl ?_;simp only [wks,reduceIte,Nat.reduceEqDiff,ASt.okB,AV.okB,Nat.reduceLT,implies_true,Int.natCast_one]) ?_
    · cases S with
      | nil=>rfl
      | cons p r=>rfl
    rintro i ⟨h1,hi,hci⟩ KL hKL
    by_cases hlt:i < S.length
    · have hdi:decide ((i:Int) < (S.length:Int))=true:=by simpa using hlt
      obtain ⟨y,hy⟩:=at_lt hlt
      obtain ⟨z,hz⟩:=at_lt (show i - 1 < S.length by omega)
      have hw:IntKind.i64.wrap ((i:Int) - 1)=((i - 1:Nat):Int):=by rw [IntKind.wrap_i64];omega
      have m1:=rowE_at' hy
      have m2:=rowE_at' hz
      have he:=eqP_ok y z
      simp only [edC,List.map_cons,List.map_nil] at he
      have hnx:=cmpct_take (by omega) hy hz
      have hi1:i - 1 < S.length:=by omega
      cases heq:eqE y z with
      | false =>
        rw [heq] at he hnx
        repeat' (first|refine T.seqK fun K hK=>?_|refine T.block ?_|(refine T.reg (by kernel_rfl) fun K' hK'=>?_;simp only [startSt,frOf,List.map_cons,List.map_nil];(repeat' (first|(with_reducible refine WL.fin ?_;refine hK' _ ?_;clear hK' K')|((with_reducible refine WL.step fun K2 hK2=>?_);simp only [simprocAttr,implies_true,amz,tys,hRl,hdi];(repeat' (first|with_reducible (first|(refine hK2 _ ?_;clear hK2 K2)|refine And.intro ?_ ?_|intro hb) ))))))|refine T.skip ?_|refine T.exit ?_|refine T.condT rfl ?_|refine T.condF rfl ?_|refine T.cond rfl (fun hc=>?_) (fun hc=>?_)|refine T.ret ?_|simp only [ThenA,InBlock,reduceIte,Nat.reduceEqDiff]|((repeat ((fail_if_success (refine hK _ ?_));clear hK K));refine hK _ ?_;clear hK K))
        refine T.drw 10 (by kernel_rfl) (by kernel_rfl) fun K' hK'=>?_;simp only [List.map_cons,List.map_nil];(repeat' (first|(with_reducible refine WL.fin ?_;refine hK' _ ?_;clear hK' K')|(with_reducible refine WD.fin ?_)|((with_reducible first|refine WL.step fun K2 hK2=>?_|refine WD.step fun K2 hK2=>?_);simp only [simprocAttr,implies_true,amz,tys,hw,hRl,hlt,hi1,m1,m2];(repeat' (first|with_reducible (first|(refine hK2 _ ?_;clear hK2 K2)|refine And.intro ?_ ?_|intro hb)|(refine Or.inl ⟨_,⟨(Ent.of Try.func33 (by kernel_rfl) rfl),he,by simp [AV.okB,AV.okB_agg]⟩,?_⟩))))));all_goals ((try simp only [ThenA,InBlock,reduceIte,Nat.reduceEqDiff]);(try ((repeat ((fail_if_success (refine hK _ ?_));clear hK K));refine hK _ ?_;clear hK K)))
        all_goals repeat' (first|refine T.seqK fun K hK=>?_|refine T.block ?_|(refine T.reg (by kernel_rfl) fun K' hK'=>?_;simp only [startSt,frOf,List.map_cons,List.map_nil];(repeat' (first|(with_reducible refine WL.fin ?_;refine hK' _ ?_;clear hK' K')|((with_reducible refine WL.step fun K2 hK2=>?_);simp only [simprocAttr,implies_true,amz,tys];(repeat' (first|with_reducible (first|(refine hK2 _ ?_;clear hK2 K2)|refine And.intro ?_ ?_|intro hb) ))))))|refine T.skip ?_|refine T.exit ?_|refine T.condT rfl ?_|refine T.condF rfl ?_|refine T.cond rfl (fun hc=>?_) (fun hc=>?_)|refine T.ret ?_|simp only [ThenA,InBlock,reduceIte,Nat.reduceEqDiff]|((repeat ((fail_if_success (refine hK _ ?_));clear hK K));refine hK _ ?_;clear hK K))
        refine hKL _ (i + 1) (by refine Weak.of' rfl ?_;simp only [wks,reduceIte,Nat.reduceEqDiff,ASt.okB,AV.okB,Nat.reduceLT,implies_true,wrap_succ (show i < 1152921504606846976 by omega),AV.okB_fn]) ⟨by omega,by omega,?_⟩ (by omega)
        rw [hnx,hci,List.take_add_one,hy];rfl
      | true =>
        rw [heq] at he hnx
        repeat' (first|refine T.seqK fun K hK=>?_|refine T.block ?_|(refine T.reg (by kernel_rfl) fun K' hK'=>?_;simp only [startSt,frOf,List.map_cons,List.map_nil];(repeat' (first|(with_reducible refine WL.fin ?_;refine hK' _ ?_;clear hK' K')|((with_reducible refine WL.step fun K2 hK2=>?_);simp only [simprocAttr,implies_true,amz,tys,hRl,hdi];(repeat' (first|with_reducible (first|(refine hK2 _ ?_;clear hK2 K2)|refine And.intro ?_ ?_|intro hb) ))))))|refine T.skip ?_|refine T.exit ?_|refine T.condT rfl ?_|refine T.condF rfl ?_|refine T.cond rfl (fun hc=>?_) (fun hc=>?_)|refine T.ret ?_|simp only [ThenA,InBlock,reduceIte,Nat.reduceEqDiff]|((repeat ((fail_if_success (refine hK _ ?_));clear hK K));refine hK _ ?_;clear hK K))
        refine T.drw 10 (by kernel_rfl) (by kernel_rfl) fun K' hK'=>?_;simp only [List.map_cons,List.map_nil];(repeat' (first|(with_reducible refine WL.fin ?_;refine hK' _ ?_;clear hK' K')|(with_reducible refine WD.fin ?_)|((with_reducible first|refine WL.step fun K2 hK2=>?_|refine WD.step fun K2 hK2=>?_);simp only [simprocAttr,implies_true,amz,tys,hw,hRl,hlt,hi1,m1,m2];(repeat' (first|with_reducible (first|(refine hK2 _ ?_;clear hK2 K2)|refine And.intro ?_ ?_|intro hb)|(refine Or.inl ⟨_,⟨(Ent.of Try.func33 (by kernel_rfl) rfl),he,by simp [AV.okB,AV.okB_agg]⟩,?_⟩))))));all_goals ((try simp only [ThenA,InBlock,reduceIte,Nat.reduceEqDiff]);(try ((repeat ((fail_if_success (refine hK _ ?_));clear hK K));refine hK _ ?_;clear hK K)))
        have hsl : ¬ ((i:Int)=0∧False):=by simp
        all_goals repeat' (first|refine T.seqK fun K hK=>?_|refine T.block ?_|(refine T.reg (by kernel_rfl) fun K' hK'=>?_;simp only [startSt,frOf,List.map_cons,List.map_nil];(repeat' (first|(with_reducible refine WL.fin ?_;refine hK' _ ?_;clear hK' K')|((with_reducible refine WL.step fun K2 hK2=>?_);simp only [simprocAttr,implies_true,amz,tys,hRl,hlt,false_and];(repeat' (first|with_reducible (first|(refine hK2 _ ?_;clear hK2 K2)|refine And.intro ?_ ?_|intro hb) ))))))|refine T.skip ?_|refine T.exit ?_|refine T.condT rfl ?_|refine T.condF rfl ?_|refine T.cond rfl (fun hc=>?_) (fun hc=>?_)|refine T.ret ?_|simp only [ThenA,InBlock,reduceIte,Nat.reduceEqDiff]|((repeat ((fail_if_success (refine hK _ ?_));clear hK K));refine hK _ ?_;clear hK K))
        refine T.loopK (fun c:C2=>⟨[(0,.own 0),(1,.fn (.func 33) []),(5,.int c.i),(6,.suf 0 3 i),(7,.int c.k)],[(0,.row 49 3 c.R)],66,1⟩) (fun c => 1≤c.k∧i + c.k≤S.length ∧ 1≤c.i∧c.i + 1≤i + c.k∧c.R.length=S.length∧(∀ r ∈ c.R,r.length=3)∧c.R.take c.i=rowE (cmpct (S.take (i + c.k))) ∧ ∀ q,i + c.k≤q + 1→c.R[q]? = (rowE S)[q]?) (fun c=>S.length - c.k) ⟨1,i,rowE S⟩ ⟨Nat.le_refl _,by simp only [];omega,h1,by simp only [];omega,hRl,?_,?_,fun q _=>rfl⟩ (by refine Weak.of' rfl ?_;simp only [wks,reduceIte,Nat.reduceEqDiff,ASt.okB,AV.okB,Nat.reduceLT,implies_true,Int.natCast_one,AV.okB_fn]) ?_
        · intro r hr
          obtain ⟨x,_,rfl⟩:=List.mem_map.1 hr;rfl
        · simp only []
          rw [hnx,hci,if_pos rfl,List.append_nil,rowE,rowE,List.map_take]
        rintro ⟨k,i',R⟩ ⟨k1,k2,k3,k4,k5,k6,k7,k8⟩ KL2 hKL2
        simp only at k1 k2 k3 k4 k5 k6 k7 k8 ⊢
        by_cases hkl:i + k < S.length
        · have hdk:decide ((k:Int) < ((S.length - i:Nat):Int))=true:=by simp;omega
          obtain ⟨y2,hy2⟩:=at_lt hkl
          obtain ⟨z2,hz2⟩:=at_lt (show i + k - 1 < S.length by omega)
          have hwk:IntKind.i64.wrap ((k:Int) - 1)=((k - 1:Nat):Int):=by rw [IntKind.wrap_i64];omega
          have a1:=rowE_at' hy2
          rw [← k8 (i + k) (by omega)] at a1
          have a2:=rowE_at' hz2
          rw [← k8 (i + k - 1) (by omega),show i + k - 1=i + (k - 1) by omega] at a2
          have l1:i + (k - 1) < S.length:=by omega
          have hnx2:=cmpct_take (by omega) hy2 hz2
          have he2:=eqP_ok y2 z2
          simp only [edC,List.map_cons,List.map_nil] at he2
          obtain ⟨r0,hr0⟩:=at_lt (show i' < R.length by omega)
          obtain ⟨ra,rb,rc,hrr⟩ : ∃ a b c,r0 = [a,b,c]:=by
            have:=k6 r0 (List.mem_of_getElem? hr0)
            match r0,this with
            | [a,b,c],_=>exact ⟨a,b,c,rfl⟩
          subst hrr
          have hil:i' < S.length:=by omega
          cases heq2:eqE y2 z2 with
          | true =>
            rw [heq2] at he2 hnx2
            repeat' (first|refine T.seqK fun K hK=>?_|refine T.block ?_|(refine T.reg (by kernel_rfl) fun K' hK'=>?_;simp only [startSt,frOf,List.map_cons,List.map_nil];(repeat' (first|(with_reducible refine WL.fin ?_;refine hK' _ ?_;clear hK' K')|((with_reducible refine WL.step fun K2 hK2=>?_);simp only [simprocAttr,implies_true,amz,tys,k5,hlt,hdk];(repeat' (first|with_reducible (first|(refine hK2 _ ?_;clear hK2 K2)|refine And.intro ?_ ?_|intro hb) ))))))|refine T.skip ?_|refine T.exit ?_|refine T.condT rfl ?_|refine T.condF rfl ?_|refine T.cond rfl (fun hc=>?_) (fun hc=>?_)|refine T.ret ?_|simp only [ThenA,InBlock,reduceIte,Nat.reduceEqDiff]|((repeat ((fail_if_success (refine hK _ ?_));clear hK K));refine hK _ ?_;clear hK K))
            refine T.drw 10 (by kernel_rfl) (by kernel_rfl) fun K' hK'=>?_;simp only [List.map_cons,List.map_nil];(repeat' (first|(with_reducible refine WL.fin ?_;refine hK' _ ?_;clear hK' K')|(with_reducible refine WD.fin ?_)|((with_reducible first|refine WL.step fun K2 hK2=>?_|refine WD.step fun K2 hK2=>?_);simp only [simprocAttr,implies_true,amz,tys,hwk,k5,hkl,l1,a1,a2];(repeat' (first|with_reducible (first|(refine hK2 _ ?_;clear hK2 K2)|refine And.intro ?_ ?_|intro hb)|(refine Or.inl ⟨_,⟨(Ent.of Try.func33 (by kernel_rfl) rfl),he2,by simp [AV.okB,AV.okB_agg]⟩,?_⟩))))));all_goals ((try simp only [ThenA,InBlock,reduceIte,Nat.reduceEqDiff]);(try ((repeat ((fail_if_success (refine hK _ ?_));clear hK K));refine hK _ ?_;clear hK K)))
            all_goals repeat' (first|refine T.seqK fun K hK=>?_|refine T.block ?_|(refine T.reg (by kernel_rfl) fun K' hK'=>?_;simp only [startSt,frOf,List.map_cons,List.map_nil];(repeat' (first|(with_reducible refine WL.fin ?_;refine hK' _ ?_;clear hK' K')|((with_reducible refine WL.step fun K2 hK2=>?_);simp only [simprocAttr,implies_true,amz,tys];(repeat' (first|with_reducible (first|(refine hK2 _ ?_;clear hK2 K2)|refine And.intro ?_ ?_|intro hb) ))))))|refine T.skip ?_|refine T.exit ?_|refine T.condT rfl ?_|refine T.condF rfl ?_|refine T.cond rfl (fun hc=>?_) (fun hc=>?_)|refine T.ret ?_|simp only [ThenA,InBlock,reduceIte,Nat.reduceEqDiff]|((repeat ((fail_if_success (refine hK _ ?_));clear hK K));refine hK _ ?_;clear hK K))
            refine hKL2 _ ⟨k + 1,i',R⟩ (by refine Weak.of' rfl ?_;simp only [wks,reduceIte,Nat.reduceEqDiff,ASt.okB,AV.okB,Nat.reduceLT,implies_true,wrap_succ (show k < 1152921504606846976 by omega),AV.okB_fn]) ⟨by simp only [];omega,by simp only [];omega,k3,by simp only [];omega,k5,k6,?_,fun q hq=>k8 q (by simp only [] at hq;omega)⟩ (by simp only [];omega)
            simp only []
            rw [k7,← Nat.add_assoc,hnx2,if_pos rfl,List.append_nil]
          | false =>
            rw [heq2] at he2 hnx2
            repeat' (first|refine T.seqK fun K hK=>?_|refine T.block ?_|(refine T.reg (by kernel_rfl) fun K' hK'=>?_;simp only [startSt,frOf,List.map_cons,List.map_nil];(repeat' (first|(with_reducible refine WL.fin ?_;refine hK' _ ?_;clear hK' K')|((with_reducible refine WL.step fun K2 hK2=>?_);simp only [simprocAttr,implies_true,amz,tys,k5,hlt,hdk];(repeat' (first|with_reducible (first|(refine hK2 _ ?_;clear hK2 K2)|refine And.intro ?_ ?_|intro hb) ))))))|refine T.skip ?_|refine T.exit ?_|refine T.condT rfl ?_|refine T.condF rfl ?_|refine T.cond rfl (fun hc=>?_) (fun hc=>?_)|refine T.ret ?_|simp only [ThenA,InBlock,reduceIte,Nat.reduceEqDiff]|((repeat ((fail_if_success (refine hK _ ?_));clear hK K));refine hK _ ?_;clear hK K))
            refine T.drw 10 (by kernel_rfl) (by kernel_rfl) fun K' hK'=>?_;simp only [List.map_cons,List.map_nil];(repeat' (first|(with_reducible refine WL.fin ?_;refine hK' _ ?_;clear hK' K')|(with_reducible refine WD.fin ?_)|((with_reducible first|refine WL.step fun K2 hK2=>?_|refine WD.step fun K2 hK2=>?_);simp only [simprocAttr,implies_true,amz,tys,hwk,k5,hkl,l1,a1,a2];(repeat' (first|with_reducible (first|(refine hK2 _ ?_;clear hK2 K2)|refine And.intro ?_ ?_|intro hb)|(refine Or.inl ⟨_,⟨(Ent.of Try.func33 (by kernel_rfl) rfl),he2,by simp [AV.okB,AV.okB_agg]⟩,?_⟩))))));all_goals ((try simp only [ThenA,InBlock,reduceIte,Nat.reduceEqDiff]);(try ((repeat ((fail_if_success (refine hK _ ?_));clear hK K));refine hK _ ?_;clear hK K)))
            all_goals repeat' (first|refine T.seqK fun K hK=>?_|refine T.block ?_|(refine T.reg (by kernel_rfl) fun K' hK'=>?_;simp only [startSt,frOf,List.map_cons,List.map_nil];(repeat' (first|(with_reducible refine WL.fin ?_;refine hK' _ ?_;clear hK' K')|((with_reducible refine WL.step fun K2 hK2=>?_);simp only [simprocAttr,implies_true,amz,tys,k5,hkl,hil,a1,hr0];(repeat' (first|with_reducible (first|(refine hK2 _ ?_;clear hK2 K2)|refine And.intro ?_ ?_|intro hb) ))))))|refine T.skip ?_|refine T.exit ?_|refine T.condT rfl ?_|refine T.condF rfl ?_|refine T.cond rfl (fun hc=>?_) (fun hc=>?_)|refine T.ret ?_|simp only [ThenA,InBlock,reduceIte,Nat.reduceEqDiff]|((repeat ((fail_if_success (refine hK _ ?_));clear hK K));refine hK _ ?_;clear hK K))
            refine hKL2 _ ⟨k + 1,i' + 1,R.set i' [PV.val (.int .i64 y2.f),.val (.int .i64 y2.t),.val (.int .i64 y2.k)]⟩ (by refine Weak.of' rfl ?_;simp only [wks,reduceIte,Nat.reduceEqDiff,ASt.okB,AV.okB,Nat.reduceLT,implies_true,wrap_succ (show k < 1152921504606846976 by omega),wrap_succ (show i' < 1152921504606846976 by omega),AV.okB_fn]) ⟨by simp only [];omega,by simp only [];omega,by simp only [];omega,by simp only [];omega,by simp only [List.length_set];exact k5,fun r hr=>?_,?_,fun q hq=>?_⟩ (by simp only [];omega)
            · rcases List.mem_or_eq_of_mem_set hr with h|h
              · exact k6 r h
              · rw [h];rfl
            · simp only []
              rw [← Nat.add_assoc,hnx2,if_neg (by simp),List.take_add_one,List.getElem?_set,if_pos rfl,if_pos (by omega),List.take_set_of_le (Nat.le_refl _),k7]
              simp [rowE,edC]
            · simp only [] at hq ⊢
              rw [List.getElem?_set,if_neg (by omega)]
              exact k8 q (by omega)
        · have hdk:decide ((k:Int) < ((S.length - i:Nat):Int))=false:=by simp;omega
          have hie:i + k=S.length:=by omega
          rw [hie,List.take_of_length_le (Nat.le_refl _)] at k7
          have hil:i' < S.length:=by omega
          have hlc:(List.take i' R ++ List.replicate (S.length - i') [PV.val (.int .i64 0),.val (.int .i64 0),.val (.int .i64 0)]).length=S.length:=by simp;omega
          have hil2:((i' : Nat):Int)≤((S.length:Nat):Int):=by omega
          have hl0 : 0 < S.length:=by omega
          repeat' (first|refine T.seqK fun K hK=>?_|refine T.block ?_|(refine T.reg (by kernel_rfl) fun K' hK'=>?_;simp only [startSt,frOf,List.map_cons,List.map_nil];(repeat' (first|(with_reducible refine WL.fin ?_;refine hK' _ ?_;clear hK' K')|((with_reducible refine WL.step fun K2 hK2=>?_);simp only [simprocAttr,implies_true,amz,tys,k5,hlt,hdk,hil,false_and,hlc,hil2,hl0];(repeat' (first|with_reducible (first|(refine hK2 _ ?_;clear hK2 K2)|refine And.intro ?_ ?_|intro hb) ))))))|refine T.skip ?_|refine T.exit ?_|refine T.condT rfl ?_|refine T.condF rfl ?_|refine T.cond rfl (fun hc=>?_) (fun hc=>?_)|refine T.ret ?_|simp only [ThenA,InBlock,reduceIte,Nat.reduceEqDiff]|((repeat ((fail_if_success (refine hK _ ?_));clear hK K));refine hK _ ?_;clear hK K))
          refine FinM.ret (s':=⟨[(4,.pre 0 i')],[(0,.row 49 3 (List.take i' R ++ List.replicate (S.length - i') [PV.val (.int .i64 0),.val (.int .i64 0),.val (.int .i64 0)]))],66,1⟩) (r := .pre 0 i') (.inr rfl) Try.results32 (by refine Weak.of' rfl ?_;simp only [wks,reduceIte,Nat.reduceEqDiff,ASt.okB,AV.okB,Nat.reduceLT,implies_true,]) rfl ?_ ?_;(focus (simp only [ares,aresL,ares1,simprocAttr,implies_true,amz,tys,];done))
          refine ⟨_,rfl,.inr ⟨i',rfl,by rw [hlc];omega,by rw [hlc];exact hl0,?_⟩⟩
          rw [List.take_append_of_le_length (by rw [List.length_take];omega),List.take_take,Nat.min_self,k7]
    · have hdi:decide ((i:Int) < (S.length:Int))=false:=by simpa using hlt
      have hie:i=S.length:=by omega
      subst hie
      rw [List.take_of_length_le (Nat.le_refl _)] at hci
      repeat' (first|refine T.seqK fun K hK=>?_|refine T.block ?_|(refine T.reg (by kernel_rfl) fun K' hK'=>?_;simp only [startSt,frOf,List.map_cons,List.map_nil];(repeat' (first|(with_reducible refine WL.fin ?_;refine hK' _ ?_;clear hK' K')|((with_reducible refine WL.step fun K2 hK2=>?_);simp only [simprocAttr,implies_true,amz,tys,hRl,hdi];(repeat' (first|with_reducible (first|(refine hK2 _ ?_;clear hK2 K2)|refine And.intro ?_ ?_|intro hb) ))))))|refine T.skip ?_|refine T.exit ?_|refine T.condT rfl ?_|refine T.condF rfl ?_|refine T.cond rfl (fun hc=>?_) (fun hc=>?_)|refine T.ret ?_|simp only [ThenA,InBlock,reduceIte,Nat.reduceEqDiff]|((repeat ((fail_if_success (refine hK _ ?_));clear hK K));refine hK _ ?_;clear hK K))
      refine FinM.ret (s':=⟨[(4,.own 0)],[(0,.row 49 3 (rowE S))],66,1⟩) (r := .own 0) (.inr rfl) Try.results32 (by refine Weak.of' rfl ?_;simp only [wks,reduceIte,Nat.reduceEqDiff,ASt.okB,AV.okB,Nat.reduceLT,implies_true,]) rfl ?_ ?_;(focus (simp only [ares,aresL,ares1,simprocAttr,implies_true,amz,tys,];done))
      exact ⟨_,rfl,.inl ⟨rfl,by rw [hci]⟩⟩
end Go.Proofs.Ytnckehomadnhoaa
namespace Go.Proofs.Ytnckehomadnhoaa
open Go.RowKit Go.Sort Go.Shelf
set_option linter.unusedSimpArgs false
set_option linter.unusedVariables false
def SortedL {α:Type} (cf : α → α→Int) (ks:List α):Prop:=ks.Pairwise fun x y => ¬ cf y x < 0
end Go.Proofs.Ytnckehomadnhoaa
namespace Go.Proofs.Ytnckehomadnhoaa
open Go.RowKit Go.Sort Go.Shelf
set_option linter.unusedSimpArgs false
set_option linter.unusedVariables false
def rowsK {α:Type} (enc : α→List Value) (ks:List α):List (List PV):=ks.map fun x=>(enc x).map PV.val
theorem HRel.cong2 {L:Nat→Prop} {N:Nat} {hp hp' : Hp} {loc:Nat→Option Value} {w:World} (h:HRel L N hp loc w) (e : ∀ t,hp'.lookup t=hp.lookup t):HRel L N hp' loc w:=⟨fun t o ho=>h.at' t o (e t ▸ ho),fun t ho=>h.dead t (e t ▸ ho),h.apart,h.inL,h.notL⟩
theorem sort_memK {P:Program} {ρ:Ren} (S:SlLaysF0.n6 P ρ) (k:Nat) (aE : ∀ w,(isAgg (ρ.t 24)).run P w = .ok true w) (zE : ∀ w,(Go.sizeOf (ρ.t 24)).run P w = .ok k w) {α:Type} (enc : α→List Value) (hk : ∀ x,(enc x).length=k) (hk0 : 0 < k) (h1 : ∀ x,∀ v ∈ enc x,v.oneCell' = true) (cf : α → α→Int) (hO:SWO (ltOf cf)) (g:Nat) (ks:List α) (hlen:ks.length < 4611686018427387904) (eg:Ent P g)
    (hcmp : ∀ x y,PureC P g [.agg ((enc x).map fun v => .p (.val v)),.agg ((enc y).map fun v => .p (.val v))] (.int (cf x y))) (N:Nat) (hp:Hp) (t e:Nat) (hlk:hp.lookup t=some (.row e k (rowsK enc ks))) :
    MemC P (ρ.f 6) N hp [.own t,.fn (.func g) []] fun hp' r=>r = .tup [] ∧ ∃ ks' : List α,ks'.Perm ks∧SortedL cf ks' ∧ hp' = setHp hp t (.row e k (rowsK enc ks')):=fun L loc w vs hh hvs=>by
  obtain ⟨htN,u,hu,hor⟩:=hh.at' t _ hlk
  obtain ⟨v0,v1,rfl⟩ : ∃ v0 v1,vs = [v0,v1]:=by
    match vs,hvs.1 with
    | [v0,v1],_=>exact ⟨v0,v1,rfl⟩
  have a0:=hvs.2 0 _ v0 rfl rfl
  have a1:=hvs.2 1 _ v1 rfl rfl
  cases a0 with
  | own _ _ _ _ hv =>
  obtain rfl:u=v0:=(hv u hu).symm
  cases a1 with
  | fn _ _ cvs hl _ =>
  obtain rfl:cvs = #[]:=Array.eq_empty_of_size_eq_zero (by simpa using hl)
  obtain ⟨flat,hown,hrn,hfl,hone⟩:=hor
  have hlr:(rowsK enc ks).length=ks.length:=by simp [rowsK]
  rw [hlr] at hown
  by_cases hne:ks = []
  · subst hne
    obtain ⟨p,c,rfl⟩ : ∃ p c,u = .slice p 0 c:=by
      rcases hown.2 with ⟨rfl,_⟩|⟨b,cap,cur,rfl,_⟩
      · exact ⟨_,_,rfl⟩
      · exact ⟨_,_,rfl⟩
    refine Calls.mono (AnyF.slices_SortFunc_none S p c (.func (.func g) #[] #[]) w) ?_
    rintro ee w' ⟨rfl,rfl⟩
    refine ⟨_,loc,_,_,rfl,⟨rfl,[],.refl _,List.Pairwise.nil,rfl⟩,hh.cong2 fun x=>?_,.tup [] #[] rfl (fun j x hx=>by simp at hx),Ext.refl _ _⟩
    rw [setHp_lookup]
    split
    · rename_i e;subst e;rw [hlk];rfl
    · rfl
  have hks0 : 0 < ks.length:=List.length_pos_iff.2 hne
  rcases hown.2 with ⟨_,h0⟩|⟨b,cap,cur,rfl,_,hg,hle,hmx,hcs,htk⟩
  · omega
  have hblt:b < w.heap.size:=(Array.getElem?_eq_some_iff.1 hg).1
  haveI:Inhabited α:=⟨ks[0]⟩
  have hflen:flat.length=ks.length * k:=hown.1
  let d:Array α:=ks.toArray
  have hd:d.size=ks.length:=by simp [d]
  have hdv : ∀ i (hi:i < ks.length),d[i]! = ks[i]:=fun i hi=>by rw [getElem!_pos d i (by rw [hd];exact hi)];simp [d]
  have hflat : ∀ q,q < ks.length * k→flat[q]? = some ((flatK enc k d)[q]!):=fun q hq=>by
    rw [get_flatK _ _ _ _ (by rw [hd];exact hq)]
    have hqk:q / k < ks.length:=Nat.div_lt_of_lt_mul (by rwa [Nat.mul_comm])
    have hqm:q % k < (enc ks[q / k]).length:=by rw [hk];exact Nat.mod_lt _ hk0
    obtain ⟨v,g1,g2⟩:=hfl (q / k) ((enc ks[q / k]).map PV.val) (q % k) (.val (enc ks[q / k])[q % k]) (by simp [rowsK,List.getElem?_eq_getElem hqk]) (by rw [List.getElem?_map,List.getElem?_eq_getElem hqm];rfl)
    cases g2
    rw [hdv _ hqk,getElem!_pos (enc ks[q / k]) _ hqm,← g1]
    congr 1
    have:=Nat.div_add_mod q k
    rw [Nat.mul_comm] at this
    omega
  have hbD:Dm L loc b := .inr ⟨t,_,hu,rfl⟩
  have hH:HoldsK enc k w b 0 d:=fun j hj=>by
    rw [size_flatK,hd] at hj
    rw [Nat.zero_add]
    refine ⟨own_cell hown (hflat j hj),?_⟩
    simp [World.frozen?,hg]
  have kpS : ∀ m (dk:Array α) os,Kp (fun k=>k=b) w (sortWorldK enc k w b 0 m dk os):=fun m dk os=>by
    refine ⟨rfl,rfl,rfl,?_,fun k hk hne=>?_,Nat.le_add_right _ _⟩
    · simp [sortWorldK,grow,putRowK,putRow,mapBlock,Sort.ahead]
    · simp only [sortWorldK,grow,putRowK,putRow,mapBlock,Sort.ahead]
      rw [Array.getElem?_append_left (by simpa using hk),Array.getElem?_modify,if_neg (fun e=>hne e.symm)]
  have hagg : ∀ (W:World) (x : α),AR 0 (fun k=>k=b) noLoc W (.agg ((enc x).map fun v => .p (.val v))) (.agg (enc x).toArray):=fun W x=>by
    refine .agg _ _ (by simp) (fun j z hz=>?_) (fun j hj=>?_)
    · simp only [List.getElem?_map,Option.map_eq_some_iff] at hz
      obtain ⟨v,hv,rfl⟩:=hz
      have hlt:=(List.getElem?_eq_some_iff.1 hv).1
      have:(enc x).toArray.getD j undef=v:=by
        rw [Array.getD_eq_getD_getElem?];simp [hv]
      rw [this]
      exact .p _ _ (.val v (h1 x v (List.mem_of_getElem? hv)))
    · have hlt:j < (enc x).length:=by simpa using hj
      have:(enc x).toArray.getD j undef=(enc x)[j]:=by
        rw [Array.getD_eq_getD_getElem?];simp [hlt]
      rw [this]
      exact h1 x _ (List.getElem_mem hlt)
  have hcl:CmpLays P g #[] enc k cf b 0 d.size w:=fun m os dk hdk x y=>by
    have kw:=kpS m dk os
    have hc:=hcmp x y (fun k=>k=b) (sortWorldK enc k w b 0 m dk os) [.agg (enc x).toArray,.agg (enc y).toArray] (fun k e=>by rw [e];exact Nat.lt_of_lt_of_le hblt kw.size) ⟨rfl,fun j z v hz hv=>by
      match j,hz,hv with
      | 0,hz,hv=>cases hz;cases hv;exact hagg _ x
      | 1,hz,hv=>cases hz;cases hv;exact hagg _ y⟩
    refine Calls.mono hc fun ee w' ⟨v,q1,q2,q3⟩=>?_
    subst q1
    obtain ⟨p,hp⟩:=gm_of_below q2
    refine ⟨by rw [q3.val],p.d,p.os,hp⟩
  have hS:=AnyQ.slices_SortFunc S k aE zE enc hk h1 cf hO g #[] b 0 cap d w eg hcl hH hblt (by rw [hd];exact hlen)
  rw [show #[Value.slice (some ⟨b,0,none⟩) d.size cap,.func (.func g) #[] #[]] = #[.slice (some ⟨b,0,none⟩) ks.length cap,.func (.func g) #[] #[]] by rw [hd]] at hS
  refine Calls.mono hS ?_
  rintro ee w' ⟨rfl,d',m,os,hperm,hsort,rfl⟩
  have hd' : d'.size=ks.length:=hperm.1.trans hd
  have kw:=kpS m d' os
  have hPd:d'.toList.Perm ks:=by
    have h:=hperm.2.2
    rw [show d'.extract 0 d.size=d' by rw [← hperm.1];simp,show d.extract 0 d.size=d by simp] at h
    simpa [d] using h
  have hrun:(sortWorldK enc k w b 0 m d' os).heap[b]? = some (.cells (putCells id 0 (flatK enc k d') cur) e (0,0)):=by
    simp only [sortWorldK,grow,putRowK,putRow,mapBlock,Sort.ahead]
    rw [Array.getElem?_append_left (by simpa using hblt),Array.getElem?_modify,if_pos rfl,hg]
    rfl
  have hcap:ks.length * k≤cap * k:=Nat.mul_le_mul_right k hle
  have hput : ∀ q,q < ks.length * k→(putCells id 0 (flatK enc k d') cur)[q]? = some ((flatK enc k d')[q]!):=fun q hq=>by
    have hc:q < cur.size:=by omega
    have hkd:q < (flatK enc k d').size:=by rw [size_flatK,hd'];exact hq
    simp only [putCells,Array.getElem?_mapIdx,Array.getElem?_eq_getElem hc,Option.map_some,Nat.zero_le,Nat.zero_add,true_and,if_pos hkd,Nat.sub_zero,id]
  have hfl2 : ∀ q,q < ks.length * k→(flatK enc k d').toList[q]? = some ((flatK enc k d')[q]!):=fun q hq=>by
    have hkd:q < (flatK enc k d').size:=by rw [size_flatK,hd'];exact hq
    rw [Array.getElem?_toList,Array.getElem?_eq_getElem hkd,getElem!_pos (flatK enc k d') _ hkd]
  have hown' : (sortWorldK enc k w b 0 m d' os).ownsRow 0 e k (.slice (some ⟨b,0,none⟩) ks.length cap) ks.length (flatK enc k d').toList:=by
    refine ⟨by simp [hd'],.inr ⟨b,cap,_,rfl,Nat.zero_le _,hrun,hle,hmx,by simp only [putCells,Array.size_mapIdx];exact hcs,?_⟩⟩
    apply List.ext_getElem?
    intro q
    rw [List.getElem?_take]
    split
    · rename_i hq
      rw [Array.getElem?_toList,hput q hq,hfl2 q hq]
    · rw [List.getElem?_eq_none];simp [hd'];omega
  have hor' : OR N (Dm L loc) loc (sortWorldK enc k w b 0 m d' os) (.slice (some ⟨b,0,none⟩) ks.length cap) (.row e k (rowsK enc d'.toList)):=by
    refine ⟨(flatK enc k d').toList,by simpa [rowsK,hd'] using hown',fun r hr=>?_,fun q r j x hq hx=>?_,fun v hv=>?_⟩
    · obtain ⟨y,_,rfl⟩:=List.mem_map.1 hr;rw [List.length_map,hk]
    · simp only [rowsK,List.getElem?_map,Option.map_eq_some_iff] at hq
      obtain ⟨y,hy,rfl⟩:=hq
      simp only [List.getElem?_map,Option.map_eq_some_iff] at hx
      obtain ⟨v,hv,rfl⟩:=hx
      have hql:q < ks.length:=by have:=(List.getElem?_eq_some_iff.1 hy).1;simp at this;omega
      have hjl:=(List.getElem?_eq_some_iff.1 hv).1
      rw [hk] at hjl
      have hlt:q * k + j < ks.length * k:=by
        have:(q + 1) * k≤ks.length * k:=Nat.mul_le_mul_right _ hql
        rw [Nat.add_mul] at this
        omega
      refine ⟨v,?_,.val v (h1 y v (List.mem_of_getElem? hv))⟩
      rw [hfl2 _ hlt,get_flatK _ _ _ _ (by rw [hd'];exact hlt)]
      have e1:(q * k + j) / k=q:=by rw [Nat.mul_comm,Nat.mul_add_div (by omega),Nat.div_eq_of_lt hjl];rfl
      have e2:(q * k + j) % k=j:=by rw [Nat.mul_comm,Nat.mul_add_mod,Nat.mod_eq_of_lt hjl]
      have hyd:d'[q]! = y:=by
        rw [getElem!_pos d' q (by rw [hd'];exact hql)]
        have:=(List.getElem?_eq_some_iff.1 hy).2
        simpa using this
      rw [e1,e2,hyd]
      have:=(List.getElem?_eq_some_iff.1 hv)
      obtain ⟨hl2,hl3⟩:=this
      rw [getElem!_pos (enc y) _ hl2,hl3]
    · obtain ⟨q,hq,rfl⟩:=List.mem_iff_getElem.1 hv
      have hq' : q < ks.length * k:=by simpa [hd'] using hq
      have hz:=hfl2 q hq'
      rw [List.getElem?_eq_getElem hq] at hz
      have hz':=Option.some.inj hz
      rw [hz',get_flatK _ _ _ _ (by rw [hd'];exact hq')]
      have hqm:q % k < (enc d'[q / k]!).length:=by rw [hk];exact Nat.mod_lt _ hk0
      rw [getElem!_pos (enc d'[q / k]!) _ hqm]
      exact h1 _ _ (List.getElem_mem hqm)
  refine ⟨_,loc,_,_,rfl,⟨rfl,d'.toList,hPd,?_,rfl⟩,hh.turn hlk hu rfl kw hor',.tup [] #[] rfl (fun j x hx=>by simp at hx),.turn hu rfl kw⟩
  refine List.pairwise_iff_getElem.2 fun i j hi hj hij=>?_
  have h:=hsort i j (Nat.zero_le _) hij (by simp at hj;omega)
  rw [getElem!_pos d' i (by simpa using hi),getElem!_pos d' j (by simpa using hj)] at h
  simpa [ltOf] using h
end Go.Proofs.Ytnckehomadnhoaa
namespace Go.Proofs
open Go.Shelf Go.RowKit Go.Lib Go.Sort
def Ytnckehomadnhoaa.sortE_ren:Go.Shelf.Ren:=⟨fun | 6 => 30 | 15 => 44 | 14 => 43 | 28 => 60 | 29 => 61 | 20 => 52 | 21 => 53 | 22 => 54 | 23 => 55 | 24 => 56 | 25 => 57 | 26 => 58 | 27 => 59 | 46 => 70 | 47 => 71 | 48 => 72 | 49 => 73 | 50 => 74 | 57 => 88|n=>n,fun | 22 => 24 | 24 => 49 | 25 => 58 | 3 => 3 | 39 => 73 | 0 => 0 | 53 => 95 | 55 => 97 | 4 => 4 | 46 => 89 | 45 => 88 | 50 => 61 | 5 => 5 | 9 => 9 | 66 => 100 | 70 => 104 | 76 => 128 | 77 => 129|n=>n,fun|n=>n⟩
theorem Ytnckehomadnhoaa.sortE:Go.Proofs.SlLaysF0.n6 Try.prog Ytnckehomadnhoaa.sortE_ren := {
  mixed:=by kernel_rfl
  f6:=⟨Try.f30.name,by decide,Try.func30.trans (congrArg some (by kernel_rfl))⟩
  f14:=⟨Try.f43.name,by decide,Try.func43.trans (congrArg some (by kernel_rfl))⟩
  f15:=Try.func44.trans (congrArg some (by kernel_rfl))
  f20:=⟨Try.f52.name,by decide,Try.func52.trans (congrArg some (by kernel_rfl))⟩
  f21:=⟨Try.f53.name,by decide,Try.func53.trans (congrArg some (by kernel_rfl))⟩
  f22:=⟨Try.f54.name,by decide,Try.func54.trans (congrArg some (by kernel_rfl))⟩
  f23:=⟨Try.f55.name,by decide,Try.func55.trans (congrArg some (by kernel_rfl))⟩
  f24:=⟨Try.f56.name,by decide,Try.func56.trans (congrArg some (by kernel_rfl))⟩
  f25:=⟨Try.f57.name,by decide,Try.func57.trans (congrArg some (by kernel_rfl))⟩
  f26:=⟨Try.f58.name,by decide,Try.func58.trans (congrArg some (by kernel_rfl))⟩
  f27:=⟨Try.f59.name,by decide,Try.func59.trans (congrArg some (by kernel_rfl))⟩
  f28:=Try.func60.trans (congrArg some (by kernel_rfl))
  f29:=Try.func61.trans (congrArg some (by kernel_rfl))
  f46:=⟨Try.f70.name,by decide,Try.func70.trans (congrArg some (by kernel_rfl))⟩
  f47:=Try.func71.trans (congrArg some (by kernel_rfl))
  f48:=Try.func72.trans (congrArg some (by kernel_rfl))
  f49:=⟨Try.f73.name,by decide,Try.func73.trans (congrArg some (by kernel_rfl))⟩
  f50:=⟨Try.f74.name,by decide,Try.func74.trans (congrArg some (by kernel_rfl))⟩
  f57:=⟨Try.f88.name,by decide,Try.func88.trans (congrArg some (by kernel_rfl))⟩
  t0:=Try.underlying0
  a0:=Try.isAgg0
  z0:=Try.sizeOf0
  v0:=Try.zeroValue0
  t3:=Try.underlying3
  a3:=Try.isAgg3
  z3:=Try.sizeOf3
  v3:=Try.zeroValue3
  t4:=Try.underlying4
  a4:=Try.isAgg4
  z4:=Try.sizeOf4
  v4:=Try.zeroValue4
  t5:=Try.underlying5
  a5:=Try.isAgg5
  z5:=Try.sizeOf5
  v5:=Try.zeroValue5
  t9:=Try.underlying9
  a9:=Try.isAgg9
  z9:=Try.sizeOf9
  v9:=Try.zeroValue9
  t22:=Try.underlying24
  a22:=Try.isAgg24
  z22:=Try.sizeOf24
  v22:=Try.zeroValue24
  t25:=Try.underlying58
  a25:=Try.isAgg58
  z25:=Try.sizeOf58
  v25:=Try.zeroValue58
  t39:=Try.underlying73
  a39:=Try.isAgg73
  z39:=Try.sizeOf73
  v39:=Try.zeroValue73
  t45:=Try.underlying88
  a45:=Try.isAgg88
  z45:=Try.sizeOf88
  v45:=Try.zeroValue88
  t46:=Try.underlying89
  a46:=Try.isAgg89
  z46:=Try.sizeOf89
  v46:=Try.zeroValue89
  t50:=Try.underlying61
  a50:=Try.isAgg61
  z50:=Try.sizeOf61
  v50:=Try.zeroValue61
  t53:=Try.underlying95
  a53:=Try.isAgg95
  z53:=Try.sizeOf95
  v53:=Try.zeroValue95
  t55:=Try.underlying97
  a55:=Try.isAgg97
  z55:=Try.sizeOf97
  v55:=Try.zeroValue97
  t66:=Try.underlying100
  a66:=Try.isAgg100
  z66:=Try.sizeOf100
  v66:=Try.zeroValue100
  t70:=Try.underlying104
  a70:=Try.isAgg104
  z70:=Try.sizeOf104
  v70:=Try.zeroValue104
  t76:=Try.underlying128
  a76:=Try.isAgg128
  z76:=Try.sizeOf128
  v76:=Try.zeroValue128
  t77:=Try.underlying129
  a77:=Try.isAgg129
  z77:=Try.sizeOf129
  v77:=Try.zeroValue129 }
end Go.Proofs
namespace Go.Proofs.Ytnckehomadnhoaa
open Go.RowKit Go.Sort Go.Maps Go.Shelf
set_option linter.unusedSimpArgs false
set_option linter.unusedVariables false
def SmE (x:Ed):Prop:=(0≤x.f∧x.f < 1000000)∧(0≤x.t∧x.t < 1000000)∧(0≤x.k∧x.k < 1000000)
abbrev EdS := { x:Ed // SmE x }
def encE (x:EdS):List Value := [.int .i64 x.1.f,.int .i64 x.1.t,.int .i64 x.1.k]
def cmpS (x y:EdS):Int:=cmpE x.1 y.1
theorem cmpS_eq (x y:EdS):cmpW x.1 y.1=cmpS x y:=by
  obtain ⟨⟨a1,a2⟩,⟨a3,a4⟩,a5,a6⟩:=x.2
  obtain ⟨⟨b1,b2⟩,⟨b3,b4⟩,b5,b6⟩:=y.2
  unfold cmpW cmpS cmpE
  split
  · rw [IntKind.wrap_i64];omega
  · split
    · rw [IntKind.wrap_i64];omega
    · rw [IntKind.wrap_i64];omega
theorem cmpS_lt (x y:EdS):ltOf cmpS x y=true↔x.1.t < y.1.t∨(x.1.t=y.1.t∧(x.1.f < y.1.f∨(x.1.f=y.1.f∧x.1.k < y.1.k))):=by
  unfold ltOf cmpS cmpE
  rw [decide_eq_true_eq]
  split
  · omega
  · split <;> omega
theorem cmpS_swo:SWO (ltOf cmpS) where
  irrefl x:=by
    cases h:ltOf cmpS x x with
    | false=>rfl
    | true=>rw [cmpS_lt] at h;omega
  trans x y z h1 h2:=by rw [cmpS_lt] at *;omega
  ntrans x y z h1 h2:=by
    have n1 : ¬ _:=fun h=>absurd ((cmpS_lt x y).2 h) (by rw [h1];simp)
    have n2 : ¬ _:=fun h=>absurd ((cmpS_lt y z).2 h) (by rw [h2];simp)
    cases h:ltOf cmpS x z with
    | false=>rfl
    | true=>rw [cmpS_lt] at h;omega
theorem edgeAgg (w:World):(isAgg 49).run Try.prog w = .ok true w:=by kernel_rfl
theorem edgeSz (w:World):(sizeOf 49).run Try.prog w = .ok 3 w:=by kernel_rfl
theorem rowsK_E (ks:List EdS):rowsK encE ks=rowE (ks.map (·.1)):=by
  simp [rowsK,rowE,encE,edC]
theorem sort_edges (E:List Ed) (hE : ∀ x ∈ E,SmE x) (hlen:E.length < 4611686018427387904) (N:Nat) (hp:Hp) (t:Nat) (hlk:hp.lookup t=some (.row 49 3 (rowE E))) :
    MemC Try.prog 30 N hp [.own t,.fn (.func 31) []] fun hp' r=>r = .tup [] ∧ ∃ S:List Ed,S.Perm E∧S.Pairwise (fun x y => ¬ cmpE y x < 0)∧hp' = setHp hp t (.row 49 3 (rowE S)):=by
  obtain ⟨ks,hks⟩ : ∃ ks:List EdS,ks.map (·.1)=E:=⟨E.attach.map fun x=>⟨x.1,hE x.1 x.2⟩,by simp⟩
  have h:=sort_memK sortE 3 edgeAgg edgeSz encE (fun _=>rfl) (by omega) (fun x v hv=>by simp [encE] at hv;rcases hv with rfl|rfl|rfl <;> rfl) cmpS cmpS_swo 31 ks (by rw [← List.length_map (f:=(·.1)),hks];exact hlen) (Ent.of Try.func31 (by kernel_rfl) rfl) (fun x y=>by
    have:=cmpP_ok x.1 y.1
    rw [cmpS_eq] at this
    exact this) N hp t 49 (by rw [rowsK_E,hks];exact hlk)
  intro L loc w vs hh hvs
  refine Calls.mono (h L loc w vs hh hvs) ?_
  rintro e w' ⟨v,loc',hp',r,h1,⟨h2,ks',h3,h4,h5⟩,h6⟩
  refine ⟨v,loc',hp',r,h1,⟨h2,ks'.map (·.1),?_,?_,?_⟩,h6⟩
  · rw [← hks];exact h3.map _
  · exact List.pairwise_map.2 h4
  · rw [h5,rowsK_E]
theorem relsU_small {l:List Ev} (hl:l.length ≤ 100000) (hk : ∀ e ∈ l,0≤e.kind∧e.kind < 1000000) : ∀ x ∈ relsU l l.length,SmE x:=fun x hx=>by
  obtain ⟨j,e,hj,hy,hx'⟩:=relsU_mem_iff.1 hx
  obtain ⟨i,hij,hxe⟩:=relsJ_edge hy hx'
  have he:=hk e (List.mem_of_getElem? hy)
  have hkk:x.k=0∨x.k=e.kind:=by
    unfold relsJ at hx'
    rcases List.mem_append.1 hx' with h|h
    · rcases List.mem_append.1 h with h|h
      · unfold relsA at h
        split at h
        · rw [List.mem_singleton.1 h];exact .inl rfl
        · split at h
          · rw [List.mem_singleton.1 h];exact .inr rfl
          · cases h
      · unfold relsI at h
        obtain ⟨i,hi,rfl⟩:=List.mem_map.1 h
        exact .inr rfl
    · unfold relsW at h
      split at h
      · split at h
        · rw [List.mem_singleton.1 h];exact .inr rfl
        · cases h
      · cases h
  refine ⟨?_,?_,?_⟩
  · rw [hxe];simp only [];omega
  · rw [hxe];simp only [];omega
  · omega
theorem validB_kind {e:Ev} (h:validB e=true) : 0≤e.kind∧e.kind < 1000000:=by
  simp only [validB,begsB,inKind,Bool.and_eq_true,Bool.not_eq_true',Bool.or_eq_false_iff,decide_eq_false_iff_not,Bool.not_eq_false',decide_eq_true_eq] at h
  omega
theorem kinds_of {l:List Ev} (h:(checkB l).2=true) : ∀ e ∈ l,0≤e.kind∧e.kind < 1000000:=fun e he=>by
  rw [← trace_eq] at h
  exact validB_kind (goP_valid l ps0 h e he)
theorem relsJ_len (l:List Ev) (e:Ev) (j:Nat):(relsJ l e j).length≤j + 2:=by
  unfold relsJ
  rw [List.length_append,List.length_append]
  have h1:(relsA l e j).length ≤ 1:=by
    unfold relsA
    split
    · simp
    · split <;> simp
  have h2:(relsW l e j).length ≤ 1:=by
    unfold relsW
    split
    · split <;> simp
    · simp
  have h3:(relsI l e j (atL l e.obj e.off j)).length≤j:=by
    unfold relsI
    rw [List.length_map]
    refine Nat.le_trans (List.length_filter_le _ _) ?_
    unfold atL
    have:=List.length_filter_le (fun k=>(l[k]?).any (pubAt e.obj e.off)) (List.range j)
    rwa [List.length_range] at this
  omega
theorem relsU_len {l:List Ev} : ∀ n,n≤l.length→(relsU l n).length≤n * (l.length + 2)
  | 0,_=>by simp [relsU]
  | n + 1,h=>by
    obtain ⟨e,hy⟩:=at_lt (show n < l.length by omega)
    have h1:=relsU_len (l:=l) n (by omega)
    have h2:=relsJ_len l e n
    rw [relsU_succ hy,List.length_append,Nat.add_mul]
    omega
def hpE (bb:Nat) (acc:List Ed):Hp := [(5,.boxP (some bb) 24 [.own 0]),(0,.row 49 3 (rowE acc))]
theorem hpE_hok (bb:Nat) (acc:List Ed) (m:Nat) (hm : 6≤m):HpOk m (hpE bb acc) :=
  ⟨fun p hp=>by
    simp only [hpE,List.mem_cons,List.not_mem_nil,or_false] at hp
    rcases hp with rfl|rfl
    · exact ⟨by simp only [];omega,by simp [AO.okB_box,AV.okB];omega⟩
    · exact ⟨by simp only [];omega,rfl⟩,fun p hp=>by
    simp only [hpE,List.mem_cons,List.not_mem_nil,or_false] at hp
    rcases hp with rfl|rfl <;> rfl⟩
set_option maxHeartbeats 16000000 in
set_option maxRecDepth 100000 in
theorem edges_ok (l:List Ev) (hl:l.length ≤ 100000):PureC Try.prog 13 [.p (.seq 9 (l.map evC))] (.tup [.p (.seq 3 (rowE (edgesE l))),.int (errE l)]):=by
  have hv:=valid_t l hl
  cases h5:(checkB l).2 with
  | false =>
    rw [h5] at hv
    have hr:edgesE l = []:=by simp [edgesE,h5]
    have he:errE l=1:=by simp [errE,h5]
    refine PureC.of Try.func13 rfl 20 rfl (by decide) (by simp [AV.okB]) ?_
    repeat' (first|refine T.seqK fun K hK=>?_|refine T.block ?_|(refine T.reg (by kernel_rfl) fun K' hK'=>?_;simp only [startSt,frOf,List.map_cons,List.map_nil];(repeat' (first|(with_reducible refine WL.fin ?_;refine hK' _ ?_;clear hK' K')|((with_reducible refine WL.step fun K2 hK2=>?_);simp only [simprocAttr,implies_true,amz,tys];(repeat' (first|with_reducible (first|(refine hK2 _ ?_;clear hK2 K2)|refine And.intro ?_ ?_|intro hb)|((first|(with_reducible apply callArmO)|(with_reducible apply callArm));case h=>exact CallV.plain (Ent.of Try.func28 (by kernel_rfl) rfl) (hv) (by simp [AV.okB]))))))))|refine T.skip ?_|refine T.exit ?_|refine T.condT rfl ?_|refine T.condF rfl ?_|refine T.cond rfl (fun hc=>?_) (fun hc=>?_)|refine T.ret ?_|simp only [ThenA,InBlock,reduceIte,Nat.reduceEqDiff]|((repeat ((fail_if_success (refine hK _ ?_));clear hK K));refine hK _ ?_;clear hK K))
    refine FinA.retW (.inr rfl) Try.results13 (s':=⟨[(2,.p (.seq 3 [])),(3,.int 1)],[],20,0⟩) (by refine Weak.of' rfl ?_;simp only [wks,reduceIte,Nat.reduceEqDiff,ASt.okB,AV.okB,Nat.reduceLT,implies_true,]) ?_
    rw [hr,he];simp only [ares,aresL,ares1,nilE,simprocAttr,implies_true,amz,tys]
  | true =>
    rw [h5] at hv
    have hrel:=relations_ok l
    have hr:edgesE l=edU l l.length:=by simp [edgesE,h5]
    have he:errE l=0:=by simp [errE,h5]
    rw [hr,he]
    have hEl:(relsU l l.length).length ≤ 100000 * 100002:=Nat.le_trans (relsU_len l.length (Nat.le_refl _)) (Nat.mul_le_mul hl (by omega))
    refine PureC.of Try.func13 rfl 20 rfl (by decide) (by simp [AV.okB]) ?_
    repeat' (first|refine T.seqK fun K hK=>?_|refine T.block ?_|(refine T.reg (by kernel_rfl) fun K' hK'=>?_;simp only [startSt,frOf,List.map_cons,List.map_nil];(repeat' (first|(with_reducible refine WL.fin ?_;refine hK' _ ?_;clear hK' K')|((with_reducible refine WL.step fun K2 hK2=>?_);simp only [simprocAttr,implies_true,amz,tys];(repeat' (first|with_reducible (first|(refine hK2 _ ?_;clear hK2 K2)|refine And.intro ?_ ?_|intro hb)|((first|(with_reducible apply callArmO)|(with_reducible apply callArm));case h=>exact CallV.plain (Ent.of Try.func28 (by kernel_rfl) rfl) (hv) (by simp [AV.okB]))|((first|(with_reducible apply callArmO)|(with_reducible apply callArm));case h=>exact CallV.plain (Ent.of Try.func29 (by kernel_rfl) rfl) (hrel) (by simp [AV.okB]))))))))|refine T.skip ?_|refine T.exit ?_|refine T.condT rfl ?_|refine T.condF rfl ?_|refine T.cond rfl (fun hc=>?_) (fun hc=>?_)|refine T.ret ?_|simp only [ThenA,InBlock,reduceIte,Nat.reduceEqDiff]|((repeat ((fail_if_success (refine hK _ ?_));clear hK K));refine hK _ ?_;clear hK K))
    refine T.weak (Weak.newrowB _ 0 0 49 3 _ _ _ rfl rfl) ?_;simp only [setHp,List.map_cons,List.map_nil,reduceIte,Nat.reduceEqDiff,List.set_cons_succ,List.set_cons_zero,Nat.reduceAdd]
    refine T.weak (Weak.upN _ 8 (Nat.le_of_ble_eq_true rfl)) ?_
    refine T.weak (Weak.ren _ 0 5) ?_;simp only [ASt.ren,AV.ren_own,AV.ren_ptr,AV.ren_rptr,AV.ren_pre,AV.ren_p,AV.ren_elt,AV.ren_junk,AV.ren_cap0,AV.ren_fn,AV.ren_agg,AV.ren_tup,AO.ren_box,AO.ren_row,AO.ren_map,AO.ren_raw,List.map_cons,List.map_nil,List.filter_cons,List.filter_nil,lk_cons,lk_nil,reduceIte,Nat.reduceEqDiff,Nat.reduceLT,Nat.reduceBneDiff,bne_self_eq_false,Bool.and_true,Bool.and_false,Bool.true_and,Bool.false_and,Bool.and_self,Bool.false_eq_true,ne_eq,not_false_eq_true,not_true_eq_false,and_self,and_true,true_and,and_false,bne_self_eq_false]
    refine T.weak (Weak.ren _ 1 0) ?_;simp only [ASt.ren,AV.ren_own,AV.ren_ptr,AV.ren_rptr,AV.ren_pre,AV.ren_p,AV.ren_elt,AV.ren_junk,AV.ren_cap0,AV.ren_fn,AV.ren_agg,AV.ren_tup,AO.ren_box,AO.ren_row,AO.ren_map,AO.ren_raw,List.map_cons,List.map_nil,List.filter_cons,List.filter_nil,lk_cons,lk_nil,reduceIte,Nat.reduceEqDiff,Nat.reduceLT,Nat.reduceBneDiff,bne_self_eq_false,Bool.and_true,Bool.and_false,Bool.true_and,Bool.false_and,Bool.and_self,Bool.false_eq_true,ne_eq,not_false_eq_true,not_true_eq_false,and_self,and_true,true_and,and_false,bne_self_eq_false]
    refine T.pin 5 _ rfl fun bb=>?_;simp only [setHp,AO.pin,List.map_cons,List.map_nil,reduceIte,Nat.reduceEqDiff]
    refine T.weak (s':=⟨[(0,.p (.seq 9 (l.map evC))),(2,.p (.val nilV)),(3,.int 0),(4,.ptr 5 0),(10,.fn (.func 41) [.elt [.seq 9 (l.map evC)] 0])],hpE bb [],20,1999999⟩) ?_ ?_
    · refine Weak.frm _ _ _ _ (fun t=>?_) (by simp only [wks,reduceIte,Nat.reduceEqDiff,implies_true,and_self,AV.okB_fn]) (by simp only [wks,AV.okB,Nat.reduceLT,decide_true,List.all_cons,List.all_nil,Bool.and_self,AV.okB_fn]) ?_
      · simp only [hpE,nilE,lk_cons,lk_nil]
        repeat' split
        all_goals first|rfl|omega
      · exact fun t o h=>(hpE_hok bb [] 1999999 (by omega)).at' h
    refine T.rangeFS 41 [.elt [.seq 9 (l.map evC)] 0] [(4,.ptr 5 0)] rfl (Ent.of Try.func41 (by kernel_rfl) rfl) (by simp [get_mk,lk_cons]) fun lr sp hsn hsp hsa hsb=>?_
    obtain ⟨H,hHd⟩ : ∃ H:List Ed→Hp,∀ acc,H acc=(1999999,.lrec lr sp [(4,.ptr 5 0)]) :: hpE bb acc:=⟨_,fun _=>rfl⟩
    have hH : ∀ acc,HpOk 2000000 (H acc):=fun acc=>by
      rw [hHd]
      exact (hpE_hok bb acc 2000000 (by omega)).cons (by omega) (by simp [AO.okB_lrec,AV.okB]) ((hpE_hok bb acc 1999999 (by omega)).none (Nat.le_refl _))
    have hh : ∀ acc,∃ o,(H acc).lookup 1999999=some o∧o.handle=some (.func (.yield lr) #[] #[]):=fun acc=>⟨_,by rw [hHd,lookup_cons_eq],rfl⟩
    have hyld : ∀ acc x,(∃ r,relsU l l.length=acc ++ x :: r) → ∃ lr' sp' fr',(H acc).lookup 1999999=some (.lrec lr' sp' fr')∧YldC Try.prog lr' 2000000 (H acc) [.agg ((edC x).map .p)] fun hp' r=>hp' = H (acc ++ [x])∧r = .bool true:=by
      rintro acc x ⟨r,hr⟩
      have hal:acc.length ≤ 100000 * 100002:=by
        have:=congrArg List.length hr
        rw [List.length_append] at this
        omega
      refine ⟨lr,sp,[(4,.ptr 5 0)],by rw [hHd,lookup_cons_eq],YldC.of 1999999 [5] (fun hp3=>hp3=hpE bb (acc ++ [x])) (sp:=sp) (fr := [(4,.ptr 5 0)]) (by rw [hHd,lookup_cons_eq]) (by rw [hsp];rfl) (by rw [hsp,hsn];simp) (by simp [AV.keep_ptr]) ?_ ?_ (by simp [AV.okB_agg,edC,AV.okB])⟩
      · have hfil:(H acc).filter (fun p=>p.1 != 1999999)=hpE bb acc:=by
          rw [hHd,List.filter_cons,if_neg (by simp)]
          exact List.filter_eq_self.2 fun p hp=>by have:=((hpE_hok bb acc 1999999 (by omega)).ok p hp).1;simp;omega
        rw [hsa,hsb,hsp,hsn,hfil]
        have hal2:=rowE_len acc
        have hm0 : 1≤maxLen:=by unfold maxLen;omega
        have hm1:acc.length + 1≤maxLen:=by unfold maxLen;omega
        have hm2:(acc.length + 1) * 24 ≤ 140737488355328:=by omega
        have hsn2:=rowE_snoc acc x
        simp only [frPut,edC,List.map_cons,List.map_nil,hpE]
        repeat' (first|refine T.seqK fun K hK=>?_|refine T.block ?_|(refine T.reg (by kernel_rfl) fun K' hK'=>?_;simp only [startSt,frOf,List.map_cons,List.map_nil];(repeat' (first|(with_reducible refine WL.fin ?_;refine hK' _ ?_;clear hK' K')|((with_reducible refine WL.step fun K2 hK2=>?_);simp only [simprocAttr,implies_true,amz,tys,hal2,hm0,hm1,hm2,hsn2];(repeat' (first|with_reducible (first|(refine hK2 _ ?_;clear hK2 K2)|refine And.intro ?_ ?_|intro hb) ))))))|refine T.skip ?_|refine T.exit ?_|refine T.condT rfl ?_|refine T.condF rfl ?_|refine T.cond rfl (fun hc=>?_) (fun hc=>?_)|refine T.ret ?_|simp only [ThenA,InBlock,reduceIte,Nat.reduceEqDiff]|((repeat ((fail_if_success (refine hK _ ?_));clear hK K));refine hK _ ?_;clear hK K))
        refine ⟨rfl,⟨[],hpE bb (acc ++ [x]),20,2000000⟩,Weak.subs _ _ _ _ (fun t o ho=>?_) (by simp) (by simp) (fun t o h=>(hpE_hok bb _ 2000000 (by omega)).at' h),rfl,(hpE_hok bb _ 1999999 (by omega)).none (Nat.le_refl _),rfl⟩
        exact (lookup_cons_ne (Nat.ne_of_lt ((hpE_hok bb _ 2000000 (by omega)).at' ho).1)).trans ho
      · rintro hp3 rfl
        refine ⟨?_,?_,?_,rfl⟩
        · intro t ht
          rw [List.mem_singleton.1 ht]
          simp [Kept,hHd,hpE,lk_cons,AO.handle_box]
        · exact fun p hp=>AO.sub_ge .junk (Nat.le_refl _) ((hpE_hok bb _ 1999999 (by omega)).ok p hp).2
        · rw [hHd]
    have hmem:=rels_ok 2000010 rfl l (by omega) (evI_of h5) H hH 1999999 (by omega) (.func (.yield lr) #[] #[]) hh hyld
    refine ⟨2000000,H [],_,[5],hmem,?_,by simp [AV.okB,AV.okB_fn],?_⟩
    · have he:ASt.hp (ASt.add ⟨[(0,.p (.seq 9 (l.map evC))),(2,.p (.val nilV)),(3,.int 0),(4,.ptr 5 0),(10,.fn (.func 41) [.elt [.seq 9 (l.map evC)] 0])],hpE bb [],20,1999999⟩ (.lrec lr sp [(4,.ptr 5 0)]))=H []:=by rw [hHd];rfl
      refine ⟨Nat.le_refl _,fun p hp=>⟨?_,(hH []).ok p hp⟩,fun p hp _=>?_⟩
      · rw [he];exact (hH []).one p hp
      · rw [he] at hp;rw [(hH []).one p hp];rfl
    rintro hp' r ⟨rfl,rfl⟩
    refine ⟨fun t ht _=>?_,⟨_,by rw [hHd,lookup_cons_eq]⟩,fun ob=>?_⟩
    · rw [List.mem_singleton.1 ht]
      simp [Kept,hHd,hpE,lk_cons,AO.handle_box]
    have hfl:List.filter (fun p=>decide (2000000≤p.1)) ((1999999,AO.lrec lr sp [(4,.ptr 5 0)]) :: hpE bb []) = []:=by
      have:=(hH []).le
      rw [hHd] at this
      exact this
    have hst9:List.map (fun p=>if p.1=1999999 then (1999999,AO.raw (.func (.yield lr) #[] #[]) ob) else p) (hpE bb (relsU l l.length))=hpE bb (relsU l l.length):=(hpE_hok bb _ 1999999 (by omega)).set _ (Nat.le_refl _)
    simp only [ASt.callM,ASt.add,hfl,List.map_nil,List.append_nil,List.map_cons,setHp,hHd,hst9,AV.keep_own,AV.keep_ptr,AV.keep_rptr,AV.keep_pre,AV.keep_p,AV.keep_elt,AV.keep_junk,AV.keep_cap0,AV.keep_fn,AV.keep_agg,AV.keep_tup,List.mem_singleton,or_true,reduceIte,Nat.reduceEqDiff]
    obtain ⟨E,hE⟩ : ∃ E,E=relsU l l.length:=⟨_,rfl⟩
    have hsm:=relsU_small hl (kinds_of h5)
    have heq : ∀ S:List Ed,S.Perm E→S.Pairwise (fun x y => ¬ cmpE y x < 0)→cmpct S=edU l l.length:=fun S h1 h2=>edges_eq h5 (fun e he=>(kinds_of h5 e he).1) (by rw [← hE];exact h1) h2
    rw [← hE] at hEl hsm ⊢
    (try simp only [ThenA,InBlock,reduceIte,Nat.reduceEqDiff]);(try ((repeat ((fail_if_success (refine hK _ ?_));clear hK K));refine hK _ ?_;clear hK K))
    refine T.weak (s':=⟨[(4,.ptr 5 0)],hpE bb E,20,6⟩) (Weak.subs _ _ _ _ (fun t o ho=>?_) (by simp only [wks,reduceIte,Nat.reduceEqDiff,implies_true,and_self]) (by simp only [wks,AV.okB,Nat.reduceLT,decide_true]) (fun t o h=>(hpE_hok bb E 6 (by omega)).at' h)) ?_
    · exact (lookup_cons_ne (by have:=((hpE_hok bb E 6 (by omega)).at' ho).1;omega)).trans ho
    simp only [hpE]
    have hso:=sort_edges E hsm (by omega) 6 [(5,.boxP (some bb) 24 [.own 0]),(0,.row 49 3 (rowE E))] 0 rfl
    repeat' (first|refine T.seqK fun K hK=>?_|refine T.block ?_|(refine T.reg (by kernel_rfl) fun K' hK'=>?_;simp only [startSt,frOf,List.map_cons,List.map_nil];(repeat' (first|(with_reducible refine WL.fin ?_;refine hK' _ ?_;clear hK' K')|((with_reducible refine WL.step fun K2 hK2=>?_);simp only [simprocAttr,implies_true,amz,tys];(repeat' (first|with_reducible (first|(refine hK2 _ ?_;clear hK2 K2)|refine And.intro ?_ ?_|intro hb)|((with_reducible refine callArmM 6 _ _ [5] (Ent.of Try.func30 (by kernel_rfl) rfl) (hso) ?_ ?_ ?_);(focus ((refine ⟨Nat.le_of_ble_eq_true rfl,?_,?_⟩ <;> simp only [List.mem_cons,List.not_mem_nil,or_false,forall_eq_or_imp,forall_eq,lk_cons,lk_nil,reduceIte,Nat.reduceEqDiff,AO.okB_box,AO.okB_row,AO.okB_map,AO.okB_raw,AV.okB,AV.okB_agg,AV.okB_fn,AV.okB_tup,List.all_cons,List.all_nil,Bool.and_true,Bool.and_self,Nat.reduceLT,decide_true,true_and,and_true,Option.isSome_some,true_implies,false_implies,implies_true,and_self,Nat.lt_irrefl,Option.some.injEq,]);done));(focus (simp [AV.okB,AV.okB_fn];done));rintro hp' r ⟨rfl,S,hpm,hst',rfl⟩;refine ⟨by simp [Kept,setHp,lk_cons,AO.handle_box],?_⟩;simp only [ASt.callM,AV.keep_own,AV.keep_ptr,AV.keep_rptr,AV.keep_pre,AV.keep_p,AV.keep_elt,AV.keep_junk,AV.keep_cap0,AV.keep_fn,AV.keep_agg,AV.keep_tup,AO.keep,List.map_cons,List.map_nil,List.filter_cons,List.filter_nil,Nat.reduceLeDiff,decide_true,decide_false,reduceIte,Bool.false_eq_true,List.cons_append,List.nil_append,List.mem_cons,List.not_mem_nil,or_false,false_or,or_true,true_or,Nat.reduceEqDiff,put_some,put_none,Nat.le_refl,setHp])|((with_reducible refine callArmM 1 _ _ [] (Ent.of Try.func32 (by kernel_rfl) rfl) (compact_ok S (by have:=hpm.length_eq;omega)) ?_ ?_ ?_);(focus ((refine ⟨Nat.le_of_ble_eq_true rfl,?_,?_⟩ <;> simp only [List.mem_cons,List.not_mem_nil,or_false,forall_eq_or_imp,forall_eq,lk_cons,lk_nil,reduceIte,Nat.reduceEqDiff,AO.okB_box,AO.okB_row,AO.okB_map,AO.okB_raw,AV.okB,AV.okB_agg,AV.okB_fn,AV.okB_tup,List.all_cons,List.all_nil,Bool.and_true,Bool.and_self,Nat.reduceLT,decide_true,true_and,and_true,Option.isSome_some,true_implies,false_implies,implies_true,and_self,Nat.lt_irrefl,Option.some.injEq,]);done));(focus (simp [AV.okB,AV.okB_fn];done));rintro hp' r ⟨R',rfl,hR'⟩;refine ⟨by simp,?_⟩;simp only [ASt.callM,AV.keep_own,AV.keep_ptr,AV.keep_rptr,AV.keep_pre,AV.keep_p,AV.keep_elt,AV.keep_junk,AV.keep_cap0,AV.keep_fn,AV.keep_agg,AV.keep_tup,AO.keep,List.map_cons,List.map_nil,List.filter_cons,List.filter_nil,Nat.reduceLeDiff,decide_true,decide_false,reduceIte,Bool.false_eq_true,List.cons_append,List.nil_append,List.mem_cons,List.not_mem_nil,or_false,false_or,or_true,true_or,Nat.reduceEqDiff,put_some,put_none,Nat.le_refl,setHp])))))))|refine T.skip ?_|refine T.exit ?_|refine T.condT rfl ?_|refine T.condF rfl ?_|refine T.cond rfl (fun hc=>?_) (fun hc=>?_)|refine T.ret ?_|simp only [ThenA,InBlock,reduceIte,Nat.reduceEqDiff]|((repeat ((fail_if_success (refine hK _ ?_));clear hK K));refine hK _ ?_;clear hK K))
    have hcE:=heq S hpm hst'
    rcases hR' with ⟨rfl,rfl⟩|⟨m,rfl,q1,q2,q3⟩
    · rw [hcE]
      refine FinA.retW (.inr rfl) Try.results13 (Weak.frz _ 0) ?_;simp only [ares,aresL,ares1,ASt.frz,ASt.subst,AO.sub_box,AO.sub_row,AO.sub_map,AO.sub_raw,AO.sub_lrec,AV.sub_p,AV.sub_elt,AV.sub_ptr,AV.sub_rptr,AV.sub_own,AV.sub_junk,AV.sub_cap0,AV.sub_agg,AV.sub_fn,AV.sub_tup,List.filter_cons,List.filter_nil,bne_self_eq_false,Nat.reduceBneDiff,Nat.reduceEqDiff,Bool.false_eq_true,simprocAttr,implies_true,amz,tys]
    · rw [hcE] at q3
      refine FinA.retW (.inr rfl) Try.results13 ((Weak.cut _ 0 m).trans (Weak.frz _ 0)) ?_
      simp only [ASt.cut,AV.cut_own,AV.cut_ptr,AV.cut_pre,AV.cut_p,AV.cut_junk,AV.cut_tup,AO.cut_box,AO.cut_row,setHp,List.map_cons,List.map_nil,lk_cons,lk_nil,reduceIte,Nat.reduceEqDiff,and_self,q1,q2,q3,ares,aresL,ares1,ASt.frz,ASt.subst,AO.sub_box,AO.sub_row,AV.sub_p,AV.sub_ptr,AV.sub_own,AV.sub_junk,AV.sub_tup,List.filter_cons,List.filter_nil,bne_self_eq_false,Nat.reduceBneDiff,Bool.false_eq_true,simprocAttr,implies_true,amz,tys]
end Go.Proofs.Ytnckehomadnhoaa
namespace Go.Proofs.Ytnckehomadnhoaa
open Go.RowKit Go.Sort
set_option linter.unusedSimpArgs false
set_option linter.unusedVariables false
theorem cnM_at {l:List Ev} (hv:(checkB l).2=true) {a b:Nat} (ha:a < l.length) (hb:b≤a):cnM l a b=((b == a) || hbB l a b):=cnM_eq hv ha hb
theorem bef_eq (l:List Ev) (i j:Int):befO l i j=befR l i j:=by
  unfold befO befR
  cases hv:(checkB l).2 with
  | false=>simp
  | true =>
    by_cases hi:i < 0
    · simp [hi]
    by_cases hj:j < 0
    · simp [hj]
    by_cases hn:(l.length:Int)≤j
    · simp [hn]
    obtain ⟨a,rfl⟩ : ∃ a:Nat,i=a:=⟨i.toNat,by omega⟩
    obtain ⟨b,rfl⟩ : ∃ b:Nat,j=b:=⟨j.toNat,by omega⟩
    simp only [Int.toNat_natCast]
    by_cases hba:(b:Int)≤a
    · have:hbB l b a=false:=by
        cases h:hbB l b a with
        | false=>rfl
        | true=>have:=hbB_lt l b a h;omega
      simp [hba,this]
    · have hia : ¬ (l.length:Int)≤(a:Int):=by omega
      rw [cnM_at hv (show b < l.length by omega) (show a≤b by omega)]
      have:(a == b)=false:=by simp;omega
      simp [hi,hj,hn,hba,hia,this]
theorem rgF_congr {p q:Nat→Bool} : ∀ {k:Nat},(∀ i,i < k→p i=q i)→rgF p k=rgF q k
  | 0,_=>rfl
  | k + 1,h=>by rw [rgF_succ,rgF_succ,rgF_congr (fun i hi=>h i (by omega)),h k (by omega)]
theorem cone_eq (l:List Ev) (j:Int):coneO l j=coneR l j:=by
  unfold coneO coneR
  cases hv:(checkB l).2 with
  | false=>simp
  | true =>
    by_cases hj:j < 0
    · simp [hj]
    by_cases hn:(l.length:Int)≤j
    · simp [hn]
    obtain ⟨b,rfl⟩ : ∃ b:Nat,j=b:=⟨j.toNat,by omega⟩
    simp only [Int.toNat_natCast,hj,hn,decide_false,Bool.not_false,Bool.and_self,if_true,coneB]
    have hb:b < l.length:=by omega
    rw [rgF_succ,cnM_at hv hb (Nat.le_refl b)]
    simp only [beq_self_eq_true,Bool.true_or,if_true]
    congr 1
    refine rgF_congr fun i hi=>?_
    rw [cnM_at hv hb (by omega)]
    have:(i == b)=false:=by simp;omega
    simp [this]
theorem prJ_congr {p q:Nat→Nat→Bool} {j k:Nat} (h : ∀ i,i < k→p i j=q i j):prJ p j k=prJ q j k:=by
  unfold prJ
  rw [rgF_congr h]
theorem prU_congr {p q:Nat→Nat→Bool} {b c:Nat→Nat} : ∀ {n:Nat},(∀ j,j < n→prJ p j (b j)=prJ q j (c j))→prU p b n=prU q c n
  | 0,_=>rfl
  | n + 1,h=>by rw [prU,prU,prU_congr (fun j hj=>h j (by omega)),h n (by omega)]
theorem races_eq (l:List Ev):racesO l=racesR l:=by
  unfold racesO racesR
  cases hv:(checkB l).2 with
  | false=>simp
  | true =>
    simp only [if_true]
    refine prU_congr fun j hj=>?_
    rw [prJ_succ]
    have h1:racP l j j=false:=by
      simp [racP,cnM_at hv hj (Nat.le_refl j)]
    rw [h1,if_neg (by simp),List.append_nil]
    refine prJ_congr fun i hi=>?_
    unfold racP racR hbM
    rw [cnM_at hv hj (by omega)]
    have:(i == j)=false:=by simp;omega
    rw [this,Bool.false_or,Bool.and_comm]
end Go.Proofs.Ytnckehomadnhoaa
namespace Go.Proofs.Ytnckehomadnhoaa
open Go.RowKit Go.Sort
set_option linter.unusedSimpArgs false
set_option linter.unusedVariables false
def startL:List Ev := [⟨0,14,0,0,1,0,0,0,0⟩,⟨0,2,0,0,0,0,0,0,0⟩,⟨1,2,0,0,0,0,0,0,0⟩]
theorem st_valid:(checkB startL).2=true:=by decide
theorem st01:immL startL 0 1=true:=by decide
theorem st02:immL startL 0 2=true:=by decide
theorem st12:immL startL 1 2=false:=by decide
theorem sh20:hbB startL 2 0=true:=by rw [hbB_iff];exact ⟨0,by omega,st02,.inl rfl⟩
theorem sh21:hbB startL 2 1=false:=by
  cases h:hbB startL 2 1 with
  | false=>rfl
  | true =>
    rw [hbB_iff] at h
    obtain ⟨i,h1,h2,h3⟩:=h
    have:i=0∨i=1:=by omega
    rcases this with rfl|rfl
    · omega
    · rw [st12] at h2;cases h2
theorem st_edges:edgesE startL = [⟨0,1,0⟩,⟨0,2,2⟩]:=by
  have k1:kdL startL 0 1=0:=by decide
  have k2:kdL startL 0 2=2:=by decide
  simp [edgesE,st_valid,edU,edJ,startL,show (startL.length)=3 from rfl] <;> skip
  simp only [show ([⟨0,14,0,0,1,0,0,0,0⟩,⟨0,2,0,0,0,0,0,0,0⟩,⟨1,2,0,0,0,0,0,0,0⟩] : List Ev)=startL from rfl,st_valid,st01,st02,st12,k1,k2]
  simp
theorem st_err:errE startL=0:=by simp [errE,st_valid]
theorem st_races:racesO startL = [(1,2)]:=by
  have c01:confL startL 0 1=false:=by decide
  have c02:confL startL 0 2=false:=by decide
  have c12:confL startL 1 2=true:=by decide
  rw [races_eq]
  unfold racesR
  rw [st_valid,if_pos rfl,show startL.length=3 from rfl]
  simp [prU,prJ,rgF,racR,hbM,c01,c02,c12,sh21,List.range,List.range.loop]
theorem st_cone:coneO startL 2 = [0,2]:=by
  rw [cone_eq]
  unfold coneR
  rw [st_valid,show startL.length=3 from rfl]
  simp [rgF,List.range,List.range.loop,sh20,sh21]
theorem st_b02:befO startL 0 2=true:=by
  rw [bef_eq]
  unfold befR
  rw [st_valid,show startL.length=3 from rfl]
  simp [sh20]
theorem st_b12:befO startL 1 2=false:=by
  rw [bef_eq]
  unfold befR
  rw [st_valid,show startL.length=3 from rfl]
  simp [sh21]
set_option maxHeartbeats 4000000 in
set_option maxRecDepth 100000 in
theorem start_ok:PureC Try.prog 27 [] (.p (.seq 9 (startL.map evC))):=by
  simp only [startL,evC,List.map_cons,List.map_nil]
  have hm : 3≤maxLen:=by unfold maxLen;omega
  refine PureC.of Try.func27 rfl 5 rfl (by decide) (by simp [AV.okB]) ?_
  repeat' (first|refine T.seqK fun K hK=>?_|refine T.block ?_|(refine T.reg (by kernel_rfl) fun K' hK'=>?_;simp only [startSt,frOf,List.map_cons,List.map_nil];(repeat' (first|(with_reducible refine WL.fin ?_;refine hK' _ ?_;clear hK' K')|((with_reducible refine WL.step fun K2 hK2=>?_);simp only [simprocAttr,implies_true,amz,tys,hm];(repeat' (first|with_reducible (first|(refine hK2 _ ?_;clear hK2 K2)|refine And.intro ?_ ?_|intro hb) ))))))|refine T.skip ?_|refine T.exit ?_|refine T.condT rfl ?_|refine T.condF rfl ?_|refine T.cond rfl (fun hc=>?_) (fun hc=>?_)|refine T.ret ?_|simp only [ThenA,InBlock,reduceIte,Nat.reduceEqDiff]|((repeat ((fail_if_success (refine hK _ ?_));clear hK K));refine hK _ ?_;clear hK K))
  refine FinA.ret (.inr rfl) Try.results27 ?_;simp only [ares,aresL,ares1,simprocAttr,implies_true,amz,tys,]
end Go.Proofs.Ytnckehomadnhoaa
namespace Go.Proofs.Ytnckehomadnhoaa
open Go.RowKit Go.Sort
set_option linter.unusedSimpArgs false
set_option linter.unusedVariables false
def EdgesC:Prop := ∀ l:List Ev,l.length ≤ 100000→PureC Try.prog 13 [.p (.seq 9 (l.map evC))] (.tup [.p (.seq 3 (rowE (edgesE l))),.int (errE l)])
set_option maxHeartbeats 16000000 in
set_option maxRecDepth 100000 in
theorem awake_of (hE:EdgesC):PureC Try.prog 12 [] (.bool true):=by
  have hs:=start_ok
  have h1:=hE startL (by decide)
  have h2:=races_ok startL (by decide)
  have h3:=cone_ok startL (by decide) 2
  have h4:=before_ok startL (by decide) 0 2
  have h5:=before_ok startL (by decide) 1 2
  rw [st_edges,st_err] at h1
  rw [st_races] at h2
  rw [st_cone] at h3
  rw [st_b02] at h4
  rw [st_b12] at h5
  generalize startL.map evC=X at hs h1 h2 h3 h4 h5
  simp only [rowE,rowQ,rowI,List.map_cons,List.map_nil,edC,raC] at h1 h2 h3
  simp only [Int.natCast_zero,show ((1:Nat):Int)=1 from rfl,show ((2:Nat):Int)=2 from rfl] at h1 h2 h3
  refine PureC.of Try.func12 rfl 75 rfl (by decide) (by simp [AV.okB]) ?_
  repeat' (first|refine T.seqK fun K hK=>?_|refine T.block ?_|(refine T.reg (by kernel_rfl) fun K' hK'=>?_;simp only [startSt,frOf,List.map_cons,List.map_nil];(repeat' (first|(with_reducible refine WL.fin ?_;refine hK' _ ?_;clear hK' K')|((with_reducible refine WL.step fun K2 hK2=>?_);simp only [simprocAttr,implies_true,amz,abin,tys,aeqF,scEq,Bool.and_self,beq_self_eq_true,show ((1:Nat):Int)=1 from rfl,show ((2:Nat):Int)=2 from rfl,Int.reduceBEq,Int.reduceToNat,List.getElem?_cons_zero,List.getElem?_cons_succ,Int.reduceLT,Int.reduceLE,Nat.reduceLT,Nat.reduceAdd,List.length_cons,List.length_nil,decide_true,decide_false,Int.toNat_one];(repeat' (first|with_reducible (first|(refine hK2 _ ?_;clear hK2 K2)|refine And.intro ?_ ?_|intro hb)|((first|(with_reducible apply callArmO)|(with_reducible apply callArm));case h=>exact CallV.plain (Ent.of Try.func27 (by kernel_rfl) rfl) (hs) (by simp [AV.okB]))|((first|(with_reducible apply callArmO)|(with_reducible apply callArm));case h=>exact CallV.plain (Ent.of Try.func13 (by kernel_rfl) rfl) (h1) (by simp [AV.okB]))|((first|(with_reducible apply callArmO)|(with_reducible apply callArm));case h=>exact CallV.plain (Ent.of Try.func24 (by kernel_rfl) rfl) (h2) (by simp [AV.okB]))|((first|(with_reducible apply callArmO)|(with_reducible apply callArm));case h=>exact CallV.plain (Ent.of Try.func21 (by kernel_rfl) rfl) (h3) (by simp [AV.okB]))|((first|(with_reducible apply callArmO)|(with_reducible apply callArm));case h=>exact CallV.plain (Ent.of Try.func16 (by kernel_rfl) rfl) (h4) (by simp [AV.okB]))|((first|(with_reducible apply callArmO)|(with_reducible apply callArm));case h=>exact CallV.plain (Ent.of Try.func16 (by kernel_rfl) rfl) (h5) (by simp [AV.okB]))))))))|refine T.skip ?_|refine T.exit ?_|refine T.condT rfl ?_|refine T.condF rfl ?_|refine T.cond rfl (fun hc=>?_) (fun hc=>?_)|refine T.ret ?_|simp only [ThenA,InBlock,reduceIte,Nat.reduceEqDiff]|((repeat ((fail_if_success (refine hK _ ?_));clear hK K));refine hK _ ?_;clear hK K))
  all_goals (refine FinA.ret (.inr rfl) Try.results12 ?_;simp only [ares,aresL,ares1,simprocAttr,implies_true,amz,abin,tys,])
end Go.Proofs.Ytnckehomadnhoaa
namespace Go.Proofs.Ytnckehomadnhoaa
open Go.RowKit Go.Sort
set_option linter.unusedSimpArgs false
set_option linter.unusedVariables false
theorem awake_ok:PureC Try.prog 12 [] (.bool true):=awake_of edges_ok
end Go.Proofs.Ytnckehomadnhoaa
namespace Go.Proofs.Ytnckehomadnhoaa
open Go.RowKit Go.Sort Go.ChangeShapes Go.WideShapes Go.ChangeAt
theorem trodAll_length {H:Type} {enc:TypeId × Value→H} {P:Program} {w:World} {base:Nat} {spare:Nat→Bool} {held:Bool} : ∀ {ts:List TypeId} {vs:List Value} {ds:List (DataW H)} {ps:List MemPlace},DataW.TrodAll enc P w base spare held ts vs ds ps→ds.length=ts.length
  | [],[],[],_,_=>rfl
  | _ :: _,_ :: _,_ :: _,_,⟨_,_,_,h,_⟩=>by simp [trodAll_length h]
theorem trodAll_below {H:Type} {enc:TypeId × Value→H} {P:Program} {W W' : World} (hl:laidOutB P=true) (hb:Below W.heap.size W W') : ∀ {ts:List TypeId} {vs:List Value} {ds:List (DataW H)} {ps:List MemPlace},(∀ t ∈ ts,P.readableRec t=true∧t < P.types.size) →
    DataW.TrodAll enc P W 0 (fun _=>true) true ts vs ds ps→(∀ x ∈ ps,x.block < W.heap.size)→DataW.TrodAll enc P W' 0 (fun b=>decide (b < W.heap.size)) true ts vs ds ps
  | [],[],[],_,_,h,_=>h
  | t :: _,_ :: _,_ :: _,_,hT,⟨p,q,h1,h2,e⟩,hs =>
    ⟨p,q,Below.trod hl (hT t (List.mem_cons.2 (.inl rfl))).1 (hT t (List.mem_cons.2 (.inl rfl))).2 h1 hb (fun x hx=>hs x (by rw [e];exact List.mem_append_left _ hx)),
      trodAll_below hl hb (fun t ht=>hT t (List.mem_cons.2 (.inr ht))) h2 (fun x hx=>hs x (by rw [e];exact List.mem_append_right _ hx)),e⟩
theorem law_post {H:Type} {enc:TypeId × Value→H} {P:Program} {f:Func} {s:ChangeSpec} {B:TypeId} (hl:laidOutB P=true) (hps : ∀ t ∈ f.params.toList,P.readableRec t=true∧t < P.types.size) (hres:f.resultTypes = #[B]) (hB:P.underlying B=some .bool)
    {W W' : World} (hb:Below W.heap.size W W') {args:Array Value} {ds gs:List (DataW H)} {before:List MemPlace} (hv:s.vars = []) (hW:DataW.Whole enc P f.params.toList s.vars false W args.toList ds gs before)
    (hspec : ∀ ds:List (DataW H),ds.length=f.params.size→s.fn H ds = { results := [.lit (.bool true)],args:=ds }) :
    s.post enc P f false true false false W args (.bool true) W':=by
  have hW':=hW
  have hlt:=hW.lt
  rw [hv] at hW
  obtain ⟨p,q,hA,hV,rfl,hfz,hnd⟩:=hW
  obtain ⟨rfl,rfl⟩:=trodVars_none hV
  have hsp:=hspec ds (by rw [trodAll_length hA];simp)
  have hlt' : ∀ x ∈ p,x.block < W.heap.size:=fun x hx=>hlt x (List.mem_append_left _ hx)
  refine ⟨ds,[],_,[],p,[],hW',?_,?_,?_,hb.frame _,fun h=>by cases h⟩
  · rw [List.append_nil,hsp,hres]
    exact trodAll_mk1 (shut_bool hB true)
  · rw [List.append_nil,hsp]
    exact trodAll_below hl hb hps hA hlt'
  · rw [List.append_nil,hsp,hv];rfl
theorem law_lifted {H:Type} {enc:TypeId × Value→H} {C:Checked} {os:Os} {f:FuncId} {fn:Func} {s:ChangeSpec} {B:TypeId} (own:ownKnob C.prog.godebug=none) (started:os.Started) (noInit:C.prog.inits.idxOf? f=none) (hfn:C.prog.funcs[f]? = some fn)
    (witness : ∃ (w:World) (tape:Tape) (i:Input),w.os=os∧(w.forCall tape i).Shaped C.prog∧i.vars = []∧Input.okWide C.prog (w.forCall tape i) .any w.heap.size f i ∧
      s.pre6 enc C.prog fn [] false (w.forCall tape i).memory i.args∧({} : Assume).holds C.prog (lone (Frame.enter C.prog f i.args .normal) [] (w.forCall tape i)))
    (hl:laidOutB C.prog=true) (hps:(fn.params.toList.all fun t=>C.prog.readableRec t && decide (t < C.prog.types.size))=true) (hres:fn.resultTypes = #[B]) (hB:C.prog.underlying B=some .bool) (hv:s.vars = [])
    (hspec : ∀ ds:List (DataW H),ds.length=fn.params.size→s.fn H ds = { results := [.lit (.bool true)],args:=ds })
    (contract : ∀ (W:World) (base:Nat) (args:Array Value) (ds:List (DataW H)) (p:List MemPlace),
      (∀ (j:Nat) t v,fn.params[j]? = some t→args[j]? = some v→Value.okWide C.prog W .any base t v) →
      DataW.TrodAll enc C.prog W 0 (fun _=>true) true fn.params.toList args.toList ds p→(∀ x ∈ p,x.block < W.heap.size)→W.noneFrozen p →
      (DataW.weightsEach C.prog fn.params.toList ds).all (· ≤ reachBytes)=true→W.ShapedOpen C.prog →
      Calls C.prog f args W (Gives (.bool true) W)) :
    ReturnsInHanded {} C os f .any (s.pre6 enc C.prog fn [] false) (s.post enc C.prog fn false true false false):=by
  refine returnsInHanded_of_change_shaped own started noInit hfn witness ?_
  intro W base args ds gs before hval hW _ hw hsh _
  have hW':=hW
  have hlt:=hW.lt
  rw [hv] at hW
  obtain ⟨p,q,hA,hV,rfl,hfz,_⟩:=hW
  obtain ⟨rfl,rfl⟩:=trodVars_none hV
  have hnf:W.noneFrozen p:=fun b off h=>hfz b off (List.mem_append_left _ h)
  have hT : ∀ t ∈ fn.params.toList,C.prog.readableRec t=true∧t < C.prog.types.size:=fun t ht=>by
    have:=List.all_eq_true.1 hps t ht
    simpa using this
  refine (contract W base args ds p hval hA (fun x hx=>hlt x (List.mem_append_left _ hx)) hnf ?_ hsh).mono fun e W' h=>?_
  · simpa [ChangeSpec.plain,DataSpec.varTypes,hv] using hw
  · obtain ⟨rfl,q,rfl⟩:=h
    exact ⟨_,rfl,law_post hl hT hres hB (gw_below _ _) hv hW' hspec⟩
end Go.Proofs.Ytnckehomadnhoaa
namespace Go.Proofs.Ytnckehomadnhoaa
open Go.RowKit Go.Sort Go.ChangeShapes Go.WideShapes Go.ChangeAt
set_option maxRecDepth 100000
variable {H:Type} {enc:TypeId × Value→H} {W:World} {base:Nat} {spare:Nat→Bool} {held:Bool}
def PRs (W:World) (ps:List PV) (cs:List Value):Prop:=cs.length=ps.length ∧ ∀ (j:Nat) p v,ps[j]? = some p→cs[j]? = some v→PR (fun _=>False) W p v
theorem PRs.nil:PRs W [] []:=⟨rfl,fun j p v h=>by simp at h⟩
theorem PRs.cons {p:PV} {v:Value} {ps:List PV} {cs:List Value} (h:PR (fun _=>False) W p v) (k:PRs W ps cs):PRs W (p :: ps) (v :: cs):=⟨by simp [k.1],fun j p' v' h1 h2=>by
  cases j with
  | zero=>simp at h1 h2;subst h1;subst h2;exact h
  | succ j=>exact k.2 j p' v' (by simpa using h1) (by simpa using h2)⟩
theorem one_int {n:Nat} {cs:List Value} {y:DataW H × List MemPlace} (h:DataW.trod enc Try.prog W base spare held n 3 cs=some y) : ∃ x:Int,cs = [.int .i64 x]:=by
  obtain ⟨x,hx,_,wx⟩:=DataW.trod_int (by kernel_rfl:Try.prog.underlying 3=some (.int .i64)) h
  exact ⟨x,hx⟩
theorem sl_pr {α:Type} {n:Nat} {g : α→List PV} {e t:TypeId} (hu:Try.prog.underlying t=some (.slice e)) (hc:Try.prog.cellsOf e=n) (hg : ∀ x,(g x).length=n) (hn : 0 < n)
    (hel : ∀ m cs y,DataW.trod enc Try.prog W base spare held m e cs=some y → ∃ x,PRs W (g x) cs) {m:Nat} {cs:List Value} {y:DataW H × List MemPlace} (h:DataW.trod enc Try.prog W base spare held m t cs=some y) :
    ∃ (L:List α) (v:Value),cs = [v]∧PR (fun _=>False) W (.seq n (L.map g)) v:=by
  rcases DataW.trod_slice hu h with ⟨h0,_⟩|⟨a,len,cap,elems,rest,k,_,hcs,_,_,hlc,hmax,hlen,hel',_⟩
  · exact ⟨[],_,h0,.nil n none 0 fun _=>rfl⟩
  · have hall : ∀ i,i < len → ∃ (x : α) (c:List Value),PRs W (g x) c ∧ ∀ j,j < n→W.cell? ((a.add (i * n)).add j)=c[j]?:=fun i hi=>by
      have hE:=hel' i hi
      rw [List.getElem?_eq_getElem (by omega),Option.bind_eq_some_iff,hc] at hE
      obtain ⟨cs,hcs,hy⟩:=hE
      obtain ⟨_,hl,hat⟩:=World.cells?_some hcs
      obtain ⟨x,hx⟩:=hel _ _ _ hy
      exact ⟨x,cs,hx,fun j hj=>hat j hj⟩
    by_cases h0 : 0 < len
    · obtain ⟨e0,c0,hp0,hc0⟩:=hall 0 h0
      have hl0:c0.length=n:=by rw [hp0.1,hg]
      have hc00:=hc0 0 hn
      obtain ⟨b,off,spot⟩:=a
      rw [List.getElem?_eq_getElem (by omega)] at hc00
      have hspot:spot=none:=by
        have:=World.cell?_spot hc00
        simpa [Addr.add] using this
      subst hspot
      have hall2 : ∀ i,i < len → ∃ (x : α) (c:List Value),PRs W (g x) c ∧ ∀ j,j < n→W.cell? ⟨b,off + i * n + j,none⟩=c[j]?:=fun i hi=>by
        obtain ⟨x,c,h1,h2⟩:=hall i hi
        refine ⟨x,c,h1,fun j hj=>?_⟩
        have:=h2 j hj
        rw [Go.WideShapes.add_plain,Go.WideShapes.add_plain] at this
        exact this
      have hOld:Old b W:=by
        obtain ⟨x,c,h1,h2⟩:=hall2 0 h0
        have h3:=h2 0 hn
        have hl1:c.length=n:=by rw [h1.1,hg]
        rw [List.getElem?_eq_getElem (by omega)] at h3
        exact Old.of_cell h3
      let X:Fin len → α:=fun i=>(hall2 i.1 i.2).choose
      have hX : ∀ i:Fin len,∃ c:List Value,PRs W (g (X i)) c ∧ ∀ j,j < n→W.cell? ⟨b,off + i.1 * n + j,none⟩=c[j]?:=fun i=>(hall2 i.1 i.2).choose_spec
      have hlen2:(((List.finRange len).map X).map g).length=len:=by simp
      refine ⟨(List.finRange len).map X,.slice (some ⟨b,off,none⟩) (((List.finRange len).map X).map g).length cap,by rw [hcs,hlen2],?_⟩
      have key : ∀ k r j x,(((List.finRange len).map X).map g)[k]? = some r→r[j]? = some x → ∃ v,W.cell? ⟨b,off + k * n + j,none⟩=some v∧PR (fun _=>False) W x v:=fun k r j x hk hx=>by
        simp only [List.getElem?_map,Option.map_eq_some_iff] at hk
        obtain ⟨y,⟨i,hi,rfl⟩,rfl⟩:=hk
        have hki:i.1=k:=by
          obtain ⟨h1,h2⟩:=List.getElem?_eq_some_iff.1 hi
          rw [← h2];simp
        obtain ⟨c,h1,h2⟩:=hX i
        have hjn:j < n:=by rw [← hg (X i)];exact (List.getElem?_eq_some_iff.1 hx).1
        have hcl:c.length=n:=by rw [h1.1,hg]
        have h3:=h2 j hjn
        rw [hki,List.getElem?_eq_getElem (by omega)] at h3
        exact ⟨_,h3,h1.2 j x _ hx (List.getElem?_eq_getElem (by omega))⟩
      refine .seq n b off cap _ (fun k j=>(W.cell? ⟨b,off + k * n + j,none⟩).getD undef) hOld id (by rw [hlen2];exact hlc) hmax (fun r hr=>?_) (fun k r j x hk hx=>?_) (fun k r j x hk hx=>?_)
      · obtain ⟨y,_,rfl⟩:=List.mem_map.1 hr;exact hg y
      · obtain ⟨v,h1,_⟩:=key k r j x hk hx
        rw [h1];rfl
      · obtain ⟨v,h1,h2⟩:=key k r j x hk hx
        rw [h1];exact h2
    · obtain rfl:len=0:=by omega
      exact ⟨[],_,hcs,.nil n (some a) cap fun e=>by cases e⟩
theorem split9 {α:Type} (cs:List α) (h:cs.length=9):cs=(cs.drop 0).take 1 ++ (cs.drop 1).take 1 ++ (cs.drop 2).take 1 ++ (cs.drop 3).take 1 ++ (cs.drop 4).take 1 ++ (cs.drop 5).take 1 ++ (cs.drop 6).take 1 ++ (cs.drop 7).take 1 ++ (cs.drop 8).take 1:=by
  match cs,h with
  | [a,b,c,d,e,f,g,h,i],_=>rfl
set_option maxHeartbeats 1000000 in
theorem ev_of {n:Nat} {cs:List Value} {y:DataW H × List MemPlace} (h:DataW.trod enc Try.prog W base spare held n 44 cs=some y) : ∃ x:Ev,PRs W (evC x) cs:=by
  obtain ⟨xs,m,_,_,hl,hx,hf⟩:=DataW.trod_struct (P:=Try.prog) (t := 44) rfl h
  have hx' : xs.length=9:=hx
  have f0:=hf 0 _ rfl
  have f1:=hf 1 _ rfl
  have f2:=hf 2 _ rfl
  have f3:=hf 3 _ rfl
  have f4:=hf 4 _ rfl
  have f5:=hf 5 _ rfl
  have f6:=hf 6 _ rfl
  have f7:=hf 7 _ rfl
  have f8:=hf 8 _ rfl
  rw [List.getElem?_eq_getElem (by omega)] at f0 f1 f2 f3 f4 f5 f6 f7 f8
  obtain ⟨x0,e0⟩:=one_int f0
  obtain ⟨x1,e1⟩:=one_int f1
  obtain ⟨x2,e2⟩:=one_int f2
  obtain ⟨x3,e3⟩:=one_int f3
  obtain ⟨x4,e4⟩:=one_int f4
  obtain ⟨x5,e5⟩:=one_int f5
  obtain ⟨x6,e6⟩:=one_int f6
  obtain ⟨x7,e7⟩:=one_int f7
  obtain ⟨x8,e8⟩:=one_int f8
  have hc:Try.prog.cellsOf 3=1:=by kernel_rfl
  have hcl:Try.prog.cellsOf 44=9:=by kernel_rfl
  rw [hcl] at hl
  have hs:=split9 cs hl
  refine ⟨⟨x0,x1,x2,x3,x4,x5,x6,x7,x8⟩,?_⟩
  rw [hs]
  change (cs.drop 0).take (Try.prog.cellsOf 3)=_ at e0
  rw [hc] at e0
  change (cs.drop 1).take (Try.prog.cellsOf 3)=_ at e1
  rw [hc] at e1
  change (cs.drop 2).take (Try.prog.cellsOf 3)=_ at e2
  rw [hc] at e2
  change (cs.drop 3).take (Try.prog.cellsOf 3)=_ at e3
  rw [hc] at e3
  change (cs.drop 4).take (Try.prog.cellsOf 3)=_ at e4
  rw [hc] at e4
  change (cs.drop 5).take (Try.prog.cellsOf 3)=_ at e5
  rw [hc] at e5
  change (cs.drop 6).take (Try.prog.cellsOf 3)=_ at e6
  rw [hc] at e6
  change (cs.drop 7).take (Try.prog.cellsOf 3)=_ at e7
  rw [hc] at e7
  change (cs.drop 8).take (Try.prog.cellsOf 3)=_ at e8
  rw [hc] at e8
  rw [e0,e1,e2,e3,e4,e5,e6,e7,e8]
  exact .cons (.val _ rfl) (.cons (.val _ rfl) (.cons (.val _ rfl) (.cons (.val _ rfl) (.cons (.val _ rfl) (.cons (.val _ rfl) (.cons (.val _ rfl) (.cons (.val _ rfl) (.cons (.val _ rfl) .nil))))))))
theorem slice_of_cells {P:Program} {w:World} {r:Reach} {base:Nat} {t e:TypeId} {v x:Value} (hu:P.underlying t=some (.slice e)) (hok:Value.okWide P w r base t v) (h:v.cells.toList = [x]):v=x:=by
  unfold Value.okWide at hok
  rw [hu] at hok
  cases v <;> simp [Value.cells] at h <;> first|exact h|(simp [Cell.okWide,Cell.ok,hu] at hok)
theorem open_events {r:Reach} {v:Value} {d:DataW H} {p:List MemPlace} (hval:Value.okWide Try.prog W r base 22 v)
    (h:DataW.Trod enc Try.prog W 0 (fun _=>true) true 22 v d p) : ∃ l:List Ev,PR (fun _=>False) W (.seq 9 (l.map evC)) v:=by
  obtain ⟨fuel,h⟩:=h
  obtain ⟨l,x,e,hp⟩:=sl_pr (e := 44) (n := 9) (g:=evC) (by kernel_rfl) (by kernel_rfl) (fun _=>rfl) (by omega) (fun m cs y h=>ev_of h) h
  rw [slice_of_cells (e := 44) (by kernel_rfl) hval e]
  exact ⟨l,hp⟩
theorem Try.own:ownKnob Try.prog.godebug=none:=by kernel_rfl
theorem PureC.gives {P:Program} {f:FuncId} {xs:List AV} {b:Bool} {vs:Array Value} (h:PureC P f xs (.bool b)) (hx:ARs 0 (fun _=>False) noLoc W xs vs.toList):Calls P f vs W (Gives (.bool b) W):=by
  have:=h (fun _=>False) W vs.toList (fun _ h=>h.elim) hx
  refine Calls.mono this fun e w' ⟨v,h1,h2,h3⟩=>?_
  subst h1
  exact ⟨by rw [h3.val],gw_of_below h2.toBelow⟩
end Go.Proofs.Ytnckehomadnhoaa
namespace Go.Proofs.Ytnckehomadnhoaa
open Go.RowKit Go.Sort
set_option linter.unusedSimpArgs false
set_option linter.unusedVariables false
end Go.Proofs.Ytnckehomadnhoaa
namespace Go.Proofs.Ytnckehomadnhoaa
set_option linter.unusedSimpArgs false
set_option linter.unusedVariables false
theorem hb_trans {l:List Ev} : ∀ (k:Nat) {j i:Nat},hbB l k j=true→hbB l j i=true→hbB l k i=true:=by
  intro k
  induction k using Nat.strongRecOn with
  | ind k ih =>
    intro j i h1 h2
    rw [hbB_iff] at h1
    obtain ⟨m,hm,hi,h⟩:=h1
    have hij:=hbB_lt _ _ _ h2
    rw [hbB_iff]
    rcases h with rfl|⟨hjm,h⟩
    · exact ⟨j,hm,hi,.inr ⟨hij,h2⟩⟩
    · exact ⟨m,hm,hi,.inr ⟨by omega,ih m hm h h2⟩⟩
theorem hb_imm {l:List Ev} {i j:Nat} (h:i < j) (hi:immL l i j=true):hbB l j i=true:=by
  rw [hbB_iff];exact ⟨i,h,hi,.inl rfl⟩
theorem immL_at {l:List Ev} {i j:Nat} {x y:Ev} (hx:l[i]? = some x) (hy:l[j]? = some y):immL l i j=immB l x y i j:=by
  unfold immL;rw [hx,hy]
end Go.Proofs.Ytnckehomadnhoaa
namespace Go.Proofs.Ytnckehomadnhoaa
open Go.RowKit Go.Sort
set_option linter.unusedSimpArgs false
set_option linter.unusedVariables false
end Go.Proofs.Ytnckehomadnhoaa
namespace Go.Proofs.Ytnckehomadnhoaa
open Go.RowKit Go.Sort
set_option linter.unusedSimpArgs false
set_option linter.unusedVariables false
end Go.Proofs.Ytnckehomadnhoaa
namespace Go.Proofs.Ytnckehomadnhoaa
open Go.RowKit Go.Sort
set_option linter.unusedSimpArgs false
set_option linter.unusedVariables false
end Go.Proofs.Ytnckehomadnhoaa
namespace Go.Proofs.Ytnckehomadnhoaa
set_option linter.unusedSimpArgs false
set_option linter.unusedVariables false
end Go.Proofs.Ytnckehomadnhoaa
namespace Go.Proofs.Ytnckehomadnhoaa
open Go.RowKit Go.Sort
set_option linter.unusedSimpArgs false
set_option linter.unusedVariables false
def iv (k:Nat):Int:=(k:Int) - 1
end Go.Proofs.Ytnckehomadnhoaa
namespace Go.Proofs.Ytnckehomadnhoaa
set_option linter.unusedSimpArgs false
set_option linter.unusedVariables false
def NxOk (s:Rs):Prop := ∀ w ∈ s.next,15≤w.kind
theorem add_plain {s:Rs} {e:Ev} (h:NxOk s) (hk:e.kind ≤ 2) (hv:(addB s e).2=true):s.next = []∧noAdd s e=false∧(addB s e).1=cnt1 s:=by
  unfold addB at hv ⊢
  cases hn:noAdd s e with
  | true=>rw [hn] at hv;simp at hv
  | false =>
    rw [hn] at hv
    rw [if_neg (by simp)] at hv ⊢
    have hs:(stepB s e).2=true:=by
      cases h2:(stepB s e).2 with
      | true=>rfl
      | false=>rw [h2] at hv;simp at hv
    rw [if_pos hs]
    cases hx:s.next with
    | cons w r =>
      exfalso
      unfold stepB at hs
      rw [hx] at hs
      simp only at hs
      unfold groupB at hs
      have hw:=h w (by rw [hx];exact List.mem_cons_self ..)
      have hb:badB s e w=true:=by
        have:(e.kind != w.kind)=true:=by simp;omega
        simp [badB,this]
      rw [hb] at hs
      simp at hs
    | nil =>
      refine ⟨rfl,rfl,?_⟩
      have hst:stepB s e=(s,true):=by
        unfold stepB
        rw [hx]
        have hc:channelB e.kind=false:=by unfold channelB;simp;omega
        simp only [hc,Bool.false_eq_true,if_false]
        unfold otherB
        have:(e.kind == 6)=false∧(e.kind == 7)=false∧(e.kind == 8)=false∧(e.kind == 9)=false∧(e.kind == 12)=false∧(e.kind == 13)=false∧(e.kind == 14)=false:=by
          refine ⟨?_,?_,?_,?_,?_,?_,?_⟩ <;> (rw [beq_eq_false_iff_ne];omega)
        simp only [this,Bool.false_eq_true,if_false]
      rw [hst]
def mvN (k i:Nat):Nat:=if i=k then k + 1 else if i=k + 1 then k else i
theorem mvN_mvN (k i:Nat):mvN k (mvN k i)=i:=by
  unfold mvN
  by_cases h1:i=k
  · simp [h1]
  · by_cases h2:i=k + 1
    · simp [h2]
    · simp [h1,h2]
theorem any_mid {l:List Ev} {i j:Nat} {F:Ev→Bool} : ((l.take j).drop (i + 1)).any F=true ↔ ∃ q e,i < q∧q < j∧l[q]? = some e∧F e=true:=by
  rw [List.any_eq_true]
  constructor
  · rintro ⟨e,he,hf⟩
    obtain ⟨n,hn⟩:=List.mem_iff_getElem?.1 he
    rw [List.getElem?_drop] at hn
    have hlt:=(List.getElem?_eq_some_iff.1 hn).1
    rw [List.length_take] at hlt
    rw [List.getElem?_take_of_lt (by omega)] at hn
    exact ⟨i + 1 + n,e,by omega,by omega,hn,hf⟩
  · rintro ⟨q,e,h1,h2,h3,h4⟩
    refine ⟨e,?_,h4⟩
    rw [List.mem_iff_getElem?]
    refine ⟨q - (i + 1),?_⟩
    rw [List.getElem?_drop,show i + 1 + (q - (i + 1))=q by omega,List.getElem?_take_of_lt h2]
    exact h3
theorem any_pre {l:List Ev} {j:Nat} {F:Ev→Bool} : (l.take j).any F=true ↔ ∃ q e,q < j∧l[q]? = some e∧F e=true:=by
  rw [List.any_eq_true]
  constructor
  · rintro ⟨e,he,hf⟩
    obtain ⟨n,hn⟩:=List.mem_iff_getElem?.1 he
    have hlt:=(List.getElem?_eq_some_iff.1 hn).1
    rw [List.length_take] at hlt
    rw [List.getElem?_take_of_lt (by omega)] at hn
    exact ⟨n,e,by omega,hn,hf⟩
  · rintro ⟨q,e,h2,h3,h4⟩
    refine ⟨e,?_,h4⟩
    rw [List.mem_iff_getElem?]
    exact ⟨q,by rw [List.getElem?_take_of_lt h2];exact h3⟩
structure Exd (l m:List Ev) (k:Nat) (a b:Ev):Prop where
  at' : ∀ q,m[mvN k q]? = l[q]?
  ha:l[k]? = some a
  hb:l[k + 1]? = some b
  ka:a.kind=1∨a.kind=2
  kb:b.kind=1∨b.kind=2
  g:a.g ≠ b.g
  nc : ¬ (a.obj=b.obj∧a.off=b.off∧(a.kind=2∨b.kind=2))
theorem Exd.symm {l m:List Ev} {k:Nat} {a b:Ev} (h:Exd l m k a b):Exd m l k b a where
  at' q:=by have:=h.at' (mvN k q);rw [mvN_mvN] at this;exact this.symm
  ha:=by have:=h.at' (k + 1);rw [h.hb] at this;simpa [mvN] using this
  hb:=by have:=h.at' k;rw [h.ha] at this;simpa [mvN] using this
  ka:=h.kb
  kb:=h.ka
  g:=h.g.symm
  nc:=fun ⟨h1,h2,h3⟩=>h.nc ⟨h1.symm,h2.symm,h3.symm⟩
theorem mv_lt {k i q:Nat} (h:i < q) (hn : ¬ (i=k∧q=k + 1)):mvN k i < mvN k q:=by
  unfold mvN
  split <;> split <;> (try split) <;> (try split) <;> omega
theorem Exd.mid {l m:List Ev} {k:Nat} {a b:Ev} (h:Exd l m k a b) {i j:Nat} {F:Ev→Bool} (h1:i=k→F b=false) (h2:j=k + 1→F a=false) (hm:((l.take j).drop (i + 1)).any F=true):((m.take (mvN k j)).drop (mvN k i + 1)).any F=true:=by
  rw [any_mid] at hm ⊢
  obtain ⟨q,e,q1,q2,q3,q4⟩:=hm
  refine ⟨mvN k q,e,mv_lt q1 ?_,mv_lt q2 ?_,by rw [h.at'];exact q3,q4⟩
  · rintro ⟨e1,rfl⟩
    rw [h.hb] at q3;cases q3
    rw [h1 e1] at q4;cases q4
  · rintro ⟨rfl,e1⟩
    rw [h.ha] at q3;cases q3
    rw [h2 e1] at q4;cases q4
theorem Exd.pre {l m:List Ev} {k:Nat} {a b:Ev} (h:Exd l m k a b) {j:Nat} {F:Ev→Bool} (h2:j=k + 1→F a=false) (hm:(l.take j).any F=true):(m.take (mvN k j)).any F=true:=by
  rw [any_pre] at hm ⊢
  obtain ⟨q,e,q2,q3,q4⟩:=hm
  refine ⟨mvN k q,e,mv_lt q2 ?_,by rw [h.at'];exact q3,q4⟩
  rintro ⟨rfl,e1⟩
  rw [h.ha] at q3;cases q3
  rw [h2 e1] at q4;cases q4
theorem bool_eq {x y:Bool} (h1:x=true→y=true) (h2:y=true→x=true):x=y:=by
  cases x <;> cases y <;> simp_all
theorem mv_eq_k {k i:Nat} : mvN k i=k↔i=k + 1:=by unfold mvN;split <;> (try split) <;> omega
theorem mv_eq_k1 {k i:Nat} : mvN k i=k + 1↔i=k:=by unfold mvN;split <;> (try split) <;> omega
theorem Exd.midB {l m:List Ev} {k:Nat} {a b:Ev} (h:Exd l m k a b) {i j:Nat} {F:Ev→Bool} (h1:i=k→F b=false) (h2:j=k + 1→F a=false) (h3:i=k + 1→F a=false) (h4:j=k→F b=false):((m.take (mvN k j)).drop (mvN k i + 1)).any F=((l.take j).drop (i + 1)).any F:=by
  refine bool_eq (fun hm=>?_) (h.mid h1 h2)
  have:=h.symm.mid (i:=mvN k i) (j:=mvN k j) (fun e=>h3 (mv_eq_k.1 e)) (fun e=>h4 (mv_eq_k1.1 e)) hm
  rwa [mvN_mvN,mvN_mvN] at this
theorem Exd.preB {l m:List Ev} {k:Nat} {a b:Ev} (h:Exd l m k a b) {j:Nat} {F:Ev→Bool} (h2:j=k + 1→F a=false) (h4:j=k→F b=false):(m.take (mvN k j)).any F=(l.take j).any F:=by
  refine bool_eq (fun hm=>?_) (h.pre h2)
  have:=h.symm.pre (j:=mvN k j) (fun e=>h4 (mv_eq_k1.1 e)) hm
  rwa [mvN_mvN] at this
theorem Exd.imm {l m:List Ev} {k:Nat} {a b:Ev} (h:Exd l m k a b) {i j:Nat} : immL m (mvN k i) (mvN k j)=immL l i j:=by
  unfold immL
  rw [h.at',h.at']
  cases hx:l[i]? with
  | none=>rfl
  | some x =>
    cases hy:l[j]? with
    | none=>rfl
    | some y =>
      have xa:i=k→x=a:=fun e=>by subst e;rw [h.ha] at hx;cases hx;rfl
      have xb:i=k + 1→x=b:=fun e=>by subst e;rw [h.hb] at hx;cases hx;rfl
      have ya:j=k→y=a:=fun e=>by subst e;rw [h.ha] at hy;cases hy;rfl
      have yb:j=k + 1→y=b:=fun e=>by subst e;rw [h.hb] at hy;cases hy;rfl
      have wf : ∀ z:Ev,writesB z a=false∧writesB z b=false:=fun z=>by
        unfold writesB
        constructor
        · rcases h.ka with e|e <;> simp [e]
        · rcases h.kb with e|e <;> simp [e]
      have hg1:(a.g == b.g)=false:=by rw [beq_eq_false_iff_ne];exact h.g
      have hg2:(b.g == a.g)=false:=by rw [beq_eq_false_iff_ne];exact h.g.symm
      have e1:progB m x y (mvN k i) (mvN k j)=progB l x y i j:=by
        unfold progB
        by_cases e:x.g=y.g
        · rw [h.midB (F:=fun e=>e.g == x.g) (fun q=>?_) (fun q=>?_) (fun q=>?_) (fun q=>?_)]
          · rw [xa q];exact hg2
          · rw [e,yb q];exact hg1
          · rw [xb q];exact hg1
          · rw [e,ya q];exact hg2
        · have:(x.g != y.g)=true:=by simpa using e
          rw [this];simp
      have e2:stgoB m x y (mvN k j)=stgoB l x y j:=by
        unfold stgoB firstB
        rw [h.preB (F:=fun e=>e.g == y.g) (fun q=>?_) (fun q=>?_)]
        · rw [yb q];exact hg1
        · rw [ya q];exact hg2
      have e3:kndB m x y (mvN k i) (mvN k j)=kndB l x y i j:=by
        unfold kndB atomB
        rw [h.midB (F:=writesB y) (fun _=>(wf y).2) (fun _=>(wf y).1) (fun _=>(wf y).1) (fun _=>(wf y).2)]
      show immB m x y _ _=immB l x y i j
      unfold immB
      rw [e1,e2,e3]
theorem Exd.no {l m:List Ev} {k:Nat} {a b:Ev} (h:Exd l m k a b):immL l k (k + 1)=false:=by
  rw [immL_at h.ha h.hb]
  unfold immB
  have h1:progB l a b k (k + 1)=false:=by
    unfold progB
    have:(a.g != b.g)=true:=by simpa using h.g
    rw [this];simp
  have h2:stgoB l a b (k + 1)=false:=by
    unfold stgoB
    rcases h.ka with e|e <;> simp [e]
  have h3:kndB l a b k (k + 1)=false:=by
    unfold kndB
    rcases h.ka with e|e <;> simp [e]
  rw [h1,h2,h3]
  simp
theorem Exd.hb1 {l m:List Ev} {k:Nat} {a b:Ev} (h:Exd l m k a b) : ∀ (j:Nat) {i:Nat},hbB l j i=true→hbB m (mvN k j) (mvN k i)=true:=by
  intro j
  induction j using Nat.strongRecOn with
  | ind j ih =>
    intro i hh
    rw [hbB_iff] at hh
    obtain ⟨p,h1,h2,h3⟩:=hh
    have hne : ¬ (p=k∧j=k + 1):=by
      rintro ⟨rfl,rfl⟩
      rw [h.no] at h2;cases h2
    have h4:=mv_lt h1 hne
    have h5:hbB m (mvN k j) (mvN k p)=true:=hb_imm h4 (by rw [h.imm];exact h2)
    rcases h3 with rfl|⟨_,h3⟩
    · exact h5
    · exact hb_trans _ h5 (ih p h1 h3)
theorem Exd.hb' {l m:List Ev} {k:Nat} {a b:Ev} (h:Exd l m k a b) (i j:Nat):hbB m (mvN k j) (mvN k i)=hbB l j i:=by
  refine bool_eq (fun hm=>?_) (h.hb1 j)
  have:=h.symm.hb1 _ hm
  rwa [mvN_mvN,mvN_mvN] at this
theorem Exd.conf {l m:List Ev} {k:Nat} {a b:Ev} (h:Exd l m k a b) (i j:Nat):confL m (mvN k i) (mvN k j)=confL l i j:=by
  unfold confL;rw [h.at',h.at']
theorem prU_iff {p:Nat→Nat→Bool} : ∀ {n:Nat} {x:Nat × Nat},x ∈ prU p (fun j=>j) n↔x.1 < x.2∧x.2 < n∧p x.1 x.2=true
  | 0,x=>by simp [prU]
  | n + 1,x=>by
    rw [prU,List.mem_append,prU_iff]
    unfold prJ rgF
    simp only [List.mem_map,List.mem_filter,List.mem_range]
    constructor
    · rintro (⟨h1,h2,h3⟩|⟨i,⟨h1,h2⟩,rfl⟩)
      · exact ⟨h1,by omega,h3⟩
      · exact ⟨h1,Nat.lt_succ_self _,h2⟩
    · rintro ⟨h1,h2,h3⟩
      by_cases e:x.2=n
      · right
        refine ⟨x.1,⟨by omega,by rw [← e];exact h3⟩,by rw [← e]⟩
      · exact .inl ⟨h1,by omega,h3⟩
theorem prU_nodup (p:Nat→Nat→Bool) (b:Nat→Nat) : ∀ n,(prU p b n).Nodup ∧ ∀ x ∈ prU p b n,x.2 < n
  | 0=>⟨List.nodup_nil,by simp [prU]⟩
  | n + 1=>by
    obtain ⟨h1,h2⟩:=prU_nodup p b n
    have h3 : ∀ x ∈ prJ p n (b n),x.2=n:=fun x hx=>by
      unfold prJ at hx
      obtain ⟨i,_,rfl⟩:=List.mem_map.1 hx;rfl
    refine ⟨?_,fun x hx=>?_⟩
    · rw [prU]
      refine List.nodup_append.2 ⟨h1,?_,fun x hx y hy e=>?_⟩
      · unfold prJ rgF
        refine List.Pairwise.map _ (fun i j (h:i ≠ j) e=>h (congrArg Prod.fst e)) ?_
        exact (List.nodup_range).filter _
      · have q1:=h2 x hx
        have q2:=h3 y hy
        rw [e] at q1;omega
    · rw [prU] at hx
      rcases List.mem_append.1 hx with hx|hx
      · exact Nat.lt_succ_of_lt (h2 x hx)
      · rw [h3 x hx];exact Nat.lt_succ_self _
theorem sub_len {α:Type} [DecidableEq α] : ∀ (A B:List α),A.Nodup→(∀ x ∈ A,x ∈ B)→A.length≤B.length
  | [],B,_,_=>Nat.zero_le _
  | a :: A,B,h,hs=>by
    obtain ⟨h1,h2⟩:=List.nodup_cons.1 h
    have hb:=hs a (List.mem_cons_self ..)
    have:=sub_len A (B.erase a) h2 fun x hx=>by
      refine (List.mem_erase_of_ne ?_).2 (hs x (List.mem_cons_of_mem _ hx))
      rintro rfl;exact h1 hx
    have hl:=List.length_erase_of_mem hb
    have hp:=List.length_pos_of_mem hb
    simp only [List.length_cons]
    omega
theorem Exd.noconf {l m:List Ev} {k:Nat} {a b:Ev} (h:Exd l m k a b):confL l k (k + 1)=false:=by
  rw [confL_eq h.ha h.hb]
  cases hc:conflictB a b with
  | false=>rfl
  | true =>
    exfalso
    unfold conflictB at hc
    simp only [Bool.and_eq_true,Bool.or_eq_true,beq_iff_eq] at hc
    exact h.nc ⟨hc.1.1.2,hc.1.2,hc.2⟩
def mvP (k:Nat) (x:Nat × Nat):Nat × Nat:=(mvN k x.1,mvN k x.2)
theorem Exd.race {l m:List Ev} {k:Nat} {a b:Ev} (h:Exd l m k a b) (hl:m.length=l.length) (h1:(checkB l).2=true) (h2:(checkB m).2=true) {x:Nat × Nat} (hx:x ∈ racesO l):mvP k x ∈ racesO m:=by
  rw [races_eq] at hx ⊢
  unfold racesR at hx ⊢
  rw [h1,if_pos rfl] at hx
  rw [h2,if_pos rfl]
  rw [prU_iff] at hx ⊢
  obtain ⟨q1,q2,q3⟩:=hx
  have hne : ¬ (x.1=k∧x.2=k + 1):=by
    rintro ⟨e1,e2⟩
    unfold racR at q3
    rw [e1,e2,h.noconf] at q3
    simp at q3
  refine ⟨mv_lt q1 hne,?_,?_⟩
  · rw [hl]
    have h3:=(List.getElem?_eq_some_iff.1 h.hb).1
    show mvN k x.2 < _
    unfold mvN
    split
    · omega
    · split <;> omega
  · show racR m (mvN k x.1) (mvN k x.2)=true
    unfold racR hbM at q3 ⊢
    rw [h.conf,h.hb']
    exact q3
theorem mvP_mvP (k:Nat) (x:Nat × Nat):mvP k (mvP k x)=x:=by
  unfold mvP;rw [mvN_mvN,mvN_mvN]
theorem Exd.le {l m:List Ev} {k:Nat} {a b:Ev} (h:Exd l m k a b) (hl:m.length=l.length) (h1:(checkB l).2=true) (h2:(checkB m).2=true):(racesO l).length≤(racesO m).length:=by
  have hn:((racesO l).map (mvP k)).Nodup:=by
    refine List.Pairwise.map _ (fun i j (hij:i ≠ j) e=>hij ?_) ?_
    · have:=congrArg (mvP k) e
      rwa [mvP_mvP,mvP_mvP] at this
    · show (racesO l).Nodup
      rw [races_eq]
      unfold racesR
      rw [h1,if_pos rfl]
      exact (prU_nodup _ _ _).1
  have:=sub_len _ (racesO m) hn fun x hx=>by
    obtain ⟨y,hy,rfl⟩:=List.mem_map.1 hx
    exact h.race hl h1 h2 hy
  rwa [List.length_map] at this
theorem Exd.len {l m:List Ev} {k:Nat} {a b:Ev} (h:Exd l m k a b) (hl:m.length=l.length) (h1:(checkB l).2=true) (h2:(checkB m).2=true):(racesO l).length=(racesO m).length:=Nat.le_antisymm (h.le hl h1 h2) (h.symm.le hl.symm h2 h1)
end Go.Proofs.Ytnckehomadnhoaa
namespace Go.Proofs.Ytnckehomadnhoaa
open Go.RowKit Go.Sort
set_option linter.unusedSimpArgs false
set_option linter.unusedVariables false
end Go.Proofs.Ytnckehomadnhoaa
namespace Go.Proofs.Ytnckehomadnhoaa
set_option linter.unusedSimpArgs false
set_option linter.unusedVariables false
end Go.Proofs.Ytnckehomadnhoaa
namespace Go.Proofs.Ytnckehomadnhoaa
open Go.RowKit Go.Sort
section
variable {P:Program} {ops:Array Oper} {o:Oper} {s:ASt}
end
end Go.Proofs.Ytnckehomadnhoaa
namespace Go.Proofs.Ytnckehomadnhoaa
open Go.RowKit Go.Sort
set_option linter.unusedSimpArgs false
set_option linter.unusedVariables false
end Go.Proofs.Ytnckehomadnhoaa
