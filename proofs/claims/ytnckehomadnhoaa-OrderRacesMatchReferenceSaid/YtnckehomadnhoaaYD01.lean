/- Texts Ev, Sm, Po, Pp, Pq, Pr, Py, Qa, Qk. -/
import Derived.Test.YtnckehomadnhoaaZ08
namespace Go.Proofs.Ytnckehomadnhoaa
open Go.RowKit Go.Sort
set_option linter.unusedSimpArgs false
set_option linter.unusedVariables false
theorem memoryR_ok (k:Int):PureC Try.prog 50 [.int k] (.bool (memoryB k)):=by
  refine PureC.of Try.func50 rfl 9 rfl (by decide) (by simp [AV.okB]) ?_
  repeat' (first|refine T.seqK fun K hK=>?_|refine T.block ?_|(refine T.reg (by kernel_rfl) fun K' hK'=>?_;simp only [startSt,frOf,List.map_cons,List.map_nil];(repeat' (first|(with_reducible refine WL.fin ?_;refine hK' _ ?_;clear hK' K')|((with_reducible refine WL.step fun K2 hK2=>?_);simp only [simprocAttr,implies_true,amz,tys];(repeat' (first|with_reducible (first|(refine hK2 _ ?_;clear hK2 K2)|refine And.intro ?_ ?_|intro hb) ))))))|refine T.skip ?_|refine T.exit ?_|refine T.condT rfl ?_|refine T.condF rfl ?_|refine T.cond rfl (fun hc=>?_) (fun hc=>?_)|refine T.ret ?_|simp only [ThenA,InBlock,reduceIte,Nat.reduceEqDiff]|((repeat ((fail_if_success (refine hK _ ?_));clear hK K));refine hK _ ?_;clear hK K))
  all_goals (refine FinA.ret (.inr rfl) Try.results50 ?_;simp only [ares,aresL,ares1,simprocAttr,implies_true,amz,tys,];first|(simp [memoryB, *];done)|(simp_all [memoryB];done)|(simp_all [memoryB];omega))
end Go.Proofs.Ytnckehomadnhoaa
namespace Go.Proofs.Ytnckehomadnhoaa
open Go.RowKit Go.Sort
set_option linter.unusedSimpArgs false
set_option linter.unusedVariables false
set_option maxHeartbeats 8000000 in
set_option maxRecDepth 100000 in
theorem first_ok (l:List Ev) (j:Nat) (x:Ev) (hx:l[j]? = some x) (hl:l.length ≤ 1000000):PureC Try.prog 45 [.p (.seq 9 (l.map evC)),.int j] (.bool (firstB l x j)):=by
  have hjl:j < l.length:=(List.getElem?_eq_some_iff.1 hx).1
  refine PureC.of Try.func45 rfl 22 rfl (by decide) (by simp [AV.okB]) ?_
  repeat' (first|refine T.seqK fun K hK=>?_|refine T.block ?_|(refine T.reg (by kernel_rfl) fun K' hK'=>?_;simp only [startSt,frOf,List.map_cons,List.map_nil];(repeat' (first|(with_reducible refine WL.fin ?_;refine hK' _ ?_;clear hK' K')|((with_reducible refine WL.step fun K2 hK2=>?_);simp only [simprocAttr,implies_true,amz,tys];(repeat' (first|with_reducible (first|(refine hK2 _ ?_;clear hK2 K2)|refine And.intro ?_ ?_|intro hb) ))))))|refine T.skip ?_|refine T.exit ?_|refine T.condT rfl ?_|refine T.condF rfl ?_|refine T.cond rfl (fun hc=>?_) (fun hc=>?_)|refine T.ret ?_|simp only [ThenA,InBlock,reduceIte,Nat.reduceEqDiff]|((repeat ((fail_if_success (refine hK _ ?_));clear hK K));refine hK _ ?_;clear hK K))
  refine T.loopK (fun k:Nat=>⟨[(0,.p (.seq 9 (l.map evC))),(1,.int j),(5,.int k)],[],22,0⟩) (fun k=>k≤j∧(l.take k).any (fun e=>e.g == x.g)=false) (fun k=>j - k) 0 ⟨Nat.zero_le _,rfl⟩ (by refine Weak.of' rfl ?_;simp only [wks,reduceIte,Nat.reduceEqDiff,ASt.okB,AV.okB,Nat.reduceLT,implies_true,Int.natCast_zero]) ?_
  rintro k ⟨hk,hn⟩ KL hKL
  by_cases hlt:k < j
  · obtain ⟨y,hy⟩:=at_lt (show k < l.length by omega)
    have hd:decide ((k:Int) < (j:Int))=true:=by simpa using hlt
    have hany:(l.take (k + 1)).any (fun e=>e.g == x.g)=(y.g == x.g):=by
      rw [List.take_add_one,hy,List.any_append,hn];simp
    have hbad:(y.g == x.g)=true→firstB l x j=false:=fun h=>by
      unfold firstB
      rw [List.any_eq_true.2 ⟨y,List.mem_take_iff_getElem.2 ⟨k,by omega,(List.getElem?_eq_some_iff.1 hy).2⟩,h⟩]
      rfl
    repeat' (first|refine T.seqK fun K hK=>?_|refine T.block ?_|(refine T.reg (by kernel_rfl) fun K' hK'=>?_;simp only [startSt,frOf,List.map_cons,List.map_nil];(repeat' (first|(with_reducible refine WL.fin ?_;refine hK' _ ?_;clear hK' K')|((with_reducible refine WL.step fun K2 hK2=>?_);simp only [simprocAttr,implies_true,amz,tys,hx,hy,hd,evC];(repeat' (first|with_reducible (first|(refine hK2 _ ?_;clear hK2 K2)|refine And.intro ?_ ?_|intro hb) ))))))|refine T.skip ?_|refine T.exit ?_|refine T.condT rfl ?_|refine T.condF rfl ?_|refine T.cond rfl (fun hc=>?_) (fun hc=>?_)|refine T.ret ?_|simp only [ThenA,InBlock,reduceIte,Nat.reduceEqDiff]|((repeat ((fail_if_success (refine hK _ ?_));clear hK K));refine hK _ ?_;clear hK K))
    refine T.drw 10 (by kernel_rfl) (by kernel_rfl) fun K' hK'=>?_;simp only [List.map_cons,List.map_nil];(repeat' (first|(with_reducible refine WL.fin ?_;refine hK' _ ?_;clear hK' K')|(with_reducible refine WD.fin ?_)|((with_reducible first|refine WL.step fun K2 hK2=>?_|refine WD.step fun K2 hK2=>?_);simp only [simprocAttr,implies_true,amz,tys,hx,hy,hd,evC];(repeat' (first|with_reducible (first|(refine hK2 _ ?_;clear hK2 K2)|refine And.intro ?_ ?_|intro hb) )))));all_goals ((try simp only [ThenA,InBlock,reduceIte,Nat.reduceEqDiff]);(try ((repeat ((fail_if_success (refine hK _ ?_));clear hK K));refine hK _ ?_;clear hK K)))
    all_goals repeat' (first|refine T.seqK fun K hK=>?_|refine T.block ?_|(refine T.reg (by kernel_rfl) fun K' hK'=>?_;simp only [startSt,frOf,List.map_cons,List.map_nil];(repeat' (first|(with_reducible refine WL.fin ?_;refine hK' _ ?_;clear hK' K')|((with_reducible refine WL.step fun K2 hK2=>?_);simp only [simprocAttr,implies_true,amz,tys,hx,hy,hd,evC];(repeat' (first|with_reducible (first|(refine hK2 _ ?_;clear hK2 K2)|refine And.intro ?_ ?_|intro hb) ))))))|refine T.skip ?_|refine T.exit ?_|refine T.condT rfl ?_|refine T.condF rfl ?_|refine T.cond rfl (fun hc=>?_) (fun hc=>?_)|refine T.ret ?_|simp only [ThenA,InBlock,reduceIte,Nat.reduceEqDiff]|((repeat ((fail_if_success (refine hK _ ?_));clear hK K));refine hK _ ?_;clear hK K))
    · refine FinA.ret (.inr rfl) Try.results45 ?_;simp only [ares,aresL,ares1,simprocAttr,implies_true,amz,tys,]
      rw [hbad hc]
    · exact hKL _ (k + 1) (by refine Weak.of' rfl ?_;simp only [wks,reduceIte,Nat.reduceEqDiff,ASt.okB,AV.okB,Nat.reduceLT,implies_true,wrap_succ (show k < 1152921504606846976 by omega)]) ⟨by omega,by rw [hany];exact hc⟩ (by omega)
  · have hd:decide ((k:Int) < (j:Int))=false:=by simpa using hlt
    obtain rfl:k=j:=by omega
    repeat' (first|refine T.seqK fun K hK=>?_|refine T.block ?_|(refine T.reg (by kernel_rfl) fun K' hK'=>?_;simp only [startSt,frOf,List.map_cons,List.map_nil];(repeat' (first|(with_reducible refine WL.fin ?_;refine hK' _ ?_;clear hK' K')|((with_reducible refine WL.step fun K2 hK2=>?_);simp only [simprocAttr,implies_true,amz,tys,hd];(repeat' (first|with_reducible (first|(refine hK2 _ ?_;clear hK2 K2)|refine And.intro ?_ ?_|intro hb) ))))))|refine T.skip ?_|refine T.exit ?_|refine T.condT rfl ?_|refine T.condF rfl ?_|refine T.cond rfl (fun hc=>?_) (fun hc=>?_)|refine T.ret ?_|simp only [ThenA,InBlock,reduceIte,Nat.reduceEqDiff]|((repeat ((fail_if_success (refine hK _ ?_));clear hK K));refine hK _ ?_;clear hK K))
    refine FinA.ret (.inr rfl) Try.results45 ?_;simp only [ares,aresL,ares1,simprocAttr,implies_true,amz,tys,]
    simp [firstB,hn]
theorem mid_succ {l:List Ev} {i k:Nat} {z:Ev} (hz:l[k]? = some z) (hi:i + 1≤k):(l.take (k + 1)).drop (i + 1)=(l.take k).drop (i + 1) ++ [z]:=by
  have:=(List.getElem?_eq_some_iff.1 hz).1
  rw [List.take_add_one,hz,List.drop_append_of_le_length (by simp;omega)];rfl
set_option maxHeartbeats 8000000 in
set_option maxRecDepth 100000 in
theorem program_ok (l:List Ev) (i j:Nat) (x y:Ev) (hx:l[i]? = some x) (hy:l[j]? = some y) (hij:i < j) (hl:l.length ≤ 1000000):PureC Try.prog 35 [.p (.seq 9 (l.map evC)),.int i,.int j] (.bool (progB l x y i j)):=by
  have hjl:j < l.length:=(List.getElem?_eq_some_iff.1 hy).1
  refine PureC.of Try.func35 rfl 37 rfl (by decide) (by simp [AV.okB]) ?_
  repeat' (first|refine T.seqK fun K hK=>?_|refine T.block ?_|(refine T.reg (by kernel_rfl) fun K' hK'=>?_;simp only [startSt,frOf,List.map_cons,List.map_nil];(repeat' (first|(with_reducible refine WL.fin ?_;refine hK' _ ?_;clear hK' K')|((with_reducible refine WL.step fun K2 hK2=>?_);simp only [simprocAttr,implies_true,amz,tys];(repeat' (first|with_reducible (first|(refine hK2 _ ?_;clear hK2 K2)|refine And.intro ?_ ?_|intro hb) ))))))|refine T.skip ?_|refine T.exit ?_|refine T.condT rfl ?_|refine T.condF rfl ?_|refine T.cond rfl (fun hc=>?_) (fun hc=>?_)|refine T.ret ?_|simp only [ThenA,InBlock,reduceIte,Nat.reduceEqDiff]|((repeat ((fail_if_success (refine hK _ ?_));clear hK K));refine hK _ ?_;clear hK K))
  refine T.drw 11 (by kernel_rfl) (by kernel_rfl) fun K' hK'=>?_;simp only [List.map_cons,List.map_nil];(repeat' (first|(with_reducible refine WL.fin ?_;refine hK' _ ?_;clear hK' K')|(with_reducible refine WD.fin ?_)|((with_reducible first|refine WL.step fun K2 hK2=>?_|refine WD.step fun K2 hK2=>?_);simp only [simprocAttr,implies_true,amz,tys,hx,hy,evC];(repeat' (first|with_reducible (first|(refine hK2 _ ?_;clear hK2 K2)|refine And.intro ?_ ?_|intro hb) )))));all_goals ((try simp only [ThenA,InBlock,reduceIte,Nat.reduceEqDiff]);(try ((repeat ((fail_if_success (refine hK _ ?_));clear hK K));refine hK _ ?_;clear hK K)))
  all_goals repeat' (first|refine T.seqK fun K hK=>?_|refine T.block ?_|(refine T.reg (by kernel_rfl) fun K' hK'=>?_;simp only [startSt,frOf,List.map_cons,List.map_nil];(repeat' (first|(with_reducible refine WL.fin ?_;refine hK' _ ?_;clear hK' K')|((with_reducible refine WL.step fun K2 hK2=>?_);simp only [simprocAttr,implies_true,amz,tys,wrap_succ (show i < 1152921504606846976 by omega)];(repeat' (first|with_reducible (first|(refine hK2 _ ?_;clear hK2 K2)|refine And.intro ?_ ?_|intro hb) ))))))|refine T.skip ?_|refine T.exit ?_|refine T.condT rfl ?_|refine T.condF rfl ?_|refine T.cond rfl (fun hc=>?_) (fun hc=>?_)|refine T.ret ?_|simp only [ThenA,InBlock,reduceIte,Nat.reduceEqDiff]|((repeat ((fail_if_success (refine hK _ ?_));clear hK K));refine hK _ ?_;clear hK K))
  · refine FinA.ret (.inr rfl) Try.results35 ?_;simp only [ares,aresL,ares1,simprocAttr,implies_true,amz,tys,]
    simp [progB,hc]
  · refine T.loopK (fun k:Nat=>⟨[(0,.p (.seq 9 (l.map evC))),(1,.int i),(2,.int j),(7,.int k)],[],37,0⟩) (fun k=>i + 1≤k∧k≤j∧((l.take k).drop (i + 1)).any (fun e=>e.g == x.g)=false) (fun k=>j - k) (i + 1) ⟨Nat.le_refl _,hij,by rw [List.drop_eq_nil_of_le (by simp;omega)];rfl⟩ (by refine Weak.of' rfl ?_;simp only [wks,reduceIte,Nat.reduceEqDiff,ASt.okB,AV.okB,Nat.reduceLT,implies_true,Int.natCast_zero]) ?_
    rintro k ⟨hk0,hk,hn⟩ KL hKL
    by_cases hlt:k < j
    · obtain ⟨z,hz⟩:=at_lt (show k < l.length by omega)
      have hd:decide ((k:Int) < (j:Int))=true:=by simpa using hlt
      have hany:((l.take (k + 1)).drop (i + 1)).any (fun e=>e.g == x.g)=(z.g == x.g):=by
        rw [mid_succ hz hk0,List.any_append,hn];simp
      have hbad:(z.g == x.g)=true→progB l x y i j=false:=fun h=>by
        have hm:z ∈ (l.take j).drop (i + 1):=by
          refine List.mem_iff_getElem?.2 ⟨k - (i + 1),?_⟩
          rw [List.getElem?_drop,show i + 1 + (k - (i + 1))=k by omega,List.getElem?_take,if_pos hlt,hz]
        unfold progB
        rw [List.any_eq_true.2 ⟨z,hm,h⟩]
        simp
      repeat' (first|refine T.seqK fun K hK=>?_|refine T.block ?_|(refine T.reg (by kernel_rfl) fun K' hK'=>?_;simp only [startSt,frOf,List.map_cons,List.map_nil];(repeat' (first|(with_reducible refine WL.fin ?_;refine hK' _ ?_;clear hK' K')|((with_reducible refine WL.step fun K2 hK2=>?_);simp only [simprocAttr,implies_true,amz,tys,hx,hz,hd,evC];(repeat' (first|with_reducible (first|(refine hK2 _ ?_;clear hK2 K2)|refine And.intro ?_ ?_|intro hb) ))))))|refine T.skip ?_|refine T.exit ?_|refine T.condT rfl ?_|refine T.condF rfl ?_|refine T.cond rfl (fun hc=>?_) (fun hc=>?_)|refine T.ret ?_|simp only [ThenA,InBlock,reduceIte,Nat.reduceEqDiff]|((repeat ((fail_if_success (refine hK _ ?_));clear hK K));refine hK _ ?_;clear hK K))
      refine T.drw 11 (by kernel_rfl) (by kernel_rfl) fun K' hK'=>?_;simp only [List.map_cons,List.map_nil];(repeat' (first|(with_reducible refine WL.fin ?_;refine hK' _ ?_;clear hK' K')|(with_reducible refine WD.fin ?_)|((with_reducible first|refine WL.step fun K2 hK2=>?_|refine WD.step fun K2 hK2=>?_);simp only [simprocAttr,implies_true,amz,tys,hx,hz,hd,evC];(repeat' (first|with_reducible (first|(refine hK2 _ ?_;clear hK2 K2)|refine And.intro ?_ ?_|intro hb) )))));all_goals ((try simp only [ThenA,InBlock,reduceIte,Nat.reduceEqDiff]);(try ((repeat ((fail_if_success (refine hK _ ?_));clear hK K));refine hK _ ?_;clear hK K)))
      all_goals repeat' (first|refine T.seqK fun K hK=>?_|refine T.block ?_|(refine T.reg (by kernel_rfl) fun K' hK'=>?_;simp only [startSt,frOf,List.map_cons,List.map_nil];(repeat' (first|(with_reducible refine WL.fin ?_;refine hK' _ ?_;clear hK' K')|((with_reducible refine WL.step fun K2 hK2=>?_);simp only [simprocAttr,implies_true,amz,tys,hx,hz,hd,evC];(repeat' (first|with_reducible (first|(refine hK2 _ ?_;clear hK2 K2)|refine And.intro ?_ ?_|intro hb) ))))))|refine T.skip ?_|refine T.exit ?_|refine T.condT rfl ?_|refine T.condF rfl ?_|refine T.cond rfl (fun hc=>?_) (fun hc=>?_)|refine T.ret ?_|simp only [ThenA,InBlock,reduceIte,Nat.reduceEqDiff]|((repeat ((fail_if_success (refine hK _ ?_));clear hK K));refine hK _ ?_;clear hK K))
      · refine FinA.ret (.inr rfl) Try.results35 ?_;simp only [ares,aresL,ares1,simprocAttr,implies_true,amz,tys,]
        rw [hbad hc]
      · exact hKL _ (k + 1) (by refine Weak.of' rfl ?_;simp only [wks,reduceIte,Nat.reduceEqDiff,ASt.okB,AV.okB,Nat.reduceLT,implies_true,wrap_succ (show k < 1152921504606846976 by omega)]) ⟨by omega,by omega,by rw [hany];exact hc⟩ (by omega)
    · have hd:decide ((k:Int) < (j:Int))=false:=by simpa using hlt
      obtain rfl:k=j:=by omega
      repeat' (first|refine T.seqK fun K hK=>?_|refine T.block ?_|(refine T.reg (by kernel_rfl) fun K' hK'=>?_;simp only [startSt,frOf,List.map_cons,List.map_nil];(repeat' (first|(with_reducible refine WL.fin ?_;refine hK' _ ?_;clear hK' K')|((with_reducible refine WL.step fun K2 hK2=>?_);simp only [simprocAttr,implies_true,amz,tys,hd];(repeat' (first|with_reducible (first|(refine hK2 _ ?_;clear hK2 K2)|refine And.intro ?_ ?_|intro hb) ))))))|refine T.skip ?_|refine T.exit ?_|refine T.condT rfl ?_|refine T.condF rfl ?_|refine T.cond rfl (fun hc=>?_) (fun hc=>?_)|refine T.ret ?_|simp only [ThenA,InBlock,reduceIte,Nat.reduceEqDiff]|((repeat ((fail_if_success (refine hK _ ?_));clear hK K));refine hK _ ?_;clear hK K))
      refine FinA.ret (.inr rfl) Try.results35 ?_;simp only [ares,aresL,ares1,simprocAttr,implies_true,amz,tys,]
      simp [progB,hn,hc]
end Go.Proofs.Ytnckehomadnhoaa
namespace Go.Proofs.Ytnckehomadnhoaa
open Go.RowKit Go.Sort
set_option linter.unusedSimpArgs false
set_option linter.unusedVariables false
set_option maxHeartbeats 8000000 in
set_option maxRecDepth 100000 in
theorem atomic_ok (l:List Ev) (i j:Nat) (y:Ev) (hy:l[j]? = some y) (hij:i < j) (hl:l.length ≤ 1000000):PureC Try.prog 46 [.p (.seq 9 (l.map evC)),.int i,.int j] (.bool (atomB l y i j)):=by
  have hjl:j < l.length:=(List.getElem?_eq_some_iff.1 hy).1
  refine PureC.of Try.func46 rfl 55 rfl (by decide) (by simp [AV.okB]) ?_
  repeat' (first|refine T.seqK fun K hK=>?_|refine T.block ?_|(refine T.reg (by kernel_rfl) fun K' hK'=>?_;simp only [startSt,frOf,List.map_cons,List.map_nil];(repeat' (first|(with_reducible refine WL.fin ?_;refine hK' _ ?_;clear hK' K')|((with_reducible refine WL.step fun K2 hK2=>?_);simp only [simprocAttr,implies_true,amz,tys,wrap_succ (show i < 1152921504606846976 by omega)];(repeat' (first|with_reducible (first|(refine hK2 _ ?_;clear hK2 K2)|refine And.intro ?_ ?_|intro hb) ))))))|refine T.skip ?_|refine T.exit ?_|refine T.condT rfl ?_|refine T.condF rfl ?_|refine T.cond rfl (fun hc=>?_) (fun hc=>?_)|refine T.ret ?_|simp only [ThenA,InBlock,reduceIte,Nat.reduceEqDiff]|((repeat ((fail_if_success (refine hK _ ?_));clear hK K));refine hK _ ?_;clear hK K))
  refine T.loopK (fun k:Nat=>⟨[(0,.p (.seq 9 (l.map evC))),(1,.int i),(2,.int j),(7,.int k)],[],55,0⟩) (fun k=>i + 1≤k∧k≤j∧((l.take k).drop (i + 1)).any (writesB y)=false) (fun k=>j - k) (i + 1) ⟨Nat.le_refl _,hij,by rw [List.drop_eq_nil_of_le (by simp;omega)];rfl⟩ (by refine Weak.of' rfl ?_;simp only [wks,reduceIte,Nat.reduceEqDiff,ASt.okB,AV.okB,Nat.reduceLT,implies_true,Int.natCast_zero]) ?_
  rintro k ⟨hk0,hk,hn⟩ KL hKL
  by_cases hlt:k < j
  · obtain ⟨z,hz⟩:=at_lt (show k < l.length by omega)
    have hd:decide ((k:Int) < (j:Int))=true:=by simpa using hlt
    have hany:((l.take (k + 1)).drop (i + 1)).any (writesB y)=writesB y z:=by
      rw [mid_succ hz hk0,List.any_append,hn];simp
    have hbad:writesB y z=true→atomB l y i j=false:=fun h=>by
      have hm:z ∈ (l.take j).drop (i + 1):=by
        refine List.mem_iff_getElem?.2 ⟨k - (i + 1),?_⟩
        rw [List.getElem?_drop,show i + 1 + (k - (i + 1))=k by omega,List.getElem?_take,if_pos hlt,hz]
      unfold atomB
      rw [List.any_eq_true.2 ⟨z,hm,h⟩]
      rfl
    have hgo:writesB y z=false → ∀ s',Weak s' _→KL s':=fun h s' hw=>hKL s' (k + 1) hw ⟨by omega,by omega,by rw [hany];exact h⟩ (by omega)
    cases h4:(z.kind == 4) with
    | true =>
      cases ho:(z.obj == y.obj) with
      | true =>
        cases hf:(z.off == y.off) with
        | true =>
          have hw:writesB y z=true:=by simp [writesB,h4,ho,hf]
          repeat' (first|refine T.seqK fun K hK=>?_|refine T.block ?_|(refine T.reg (by kernel_rfl) fun K' hK'=>?_;simp only [startSt,frOf,List.map_cons,List.map_nil];(repeat' (first|(with_reducible refine WL.fin ?_;refine hK' _ ?_;clear hK' K')|((with_reducible refine WL.step fun K2 hK2=>?_);simp only [simprocAttr,implies_true,amz,tys,hy,hz,hd,evC];(repeat' (first|with_reducible (first|(refine hK2 _ ?_;clear hK2 K2)|refine And.intro ?_ ?_|intro hb) ))))))|refine T.skip ?_|refine T.exit ?_|refine T.condT rfl ?_|refine T.condF rfl ?_|refine T.cond rfl (fun hc=>?_) (fun hc=>?_)|refine T.ret ?_|simp only [ThenA,InBlock,reduceIte,Nat.reduceEqDiff]|((repeat ((fail_if_success (refine hK _ ?_));clear hK K));refine hK _ ?_;clear hK K))
          refine T.comm [some (0,0),some (0,0),some (0,0),some (0,0),some (0,0),some (0,0),some (0,0),some (0,0),some (0,0),some (0,0),some (0,0),some (0,0),some (0,0),some (0,0),some (0,0),some (0,0),some (0,0),some (0,0),some (0,0),some (0,0),some (0,0),some (0,0),some (0,0),some (0,0),some (0,0),some (0,0),some (0,0),some (0,0),some (0,0),some (0,0),some (0,0),some (0,0),some (0,0),some (0,0),some (0,0),some (0,0),some (0,0),some (0,0),some (0,0),some (0,0)] (by kernel_rfl) (by kernel_rfl) fun K' hK'=>?_;simp only [List.map_cons,List.map_nil,List.zip_cons_cons,List.zip_nil_left];(repeat' (first|(with_reducible refine WC.fin ?_;refine hK' _ ?_;clear hK' K')|((first|(with_reducible refine WC.stepV fun K2 hK2=>?_)|(with_reducible refine WC.stepW fun K2 hK2=>?_));simp only [simprocAttr,implies_true,amz,WCg,WCv,WOw,allP,dav,Chk,List.filter_cons,List.filter_nil,bne_self_eq_false,Nat.reduceBneDiff,Bool.false_eq_true,tys,hy,hz,hd,evC,h4,ho,hf];(repeat' (first|(with_reducible refine hK2 _ _ ?_;clear hK2 K2)|with_reducible (first|(refine hK2 _ ?_;clear hK2 K2)|refine And.intro ?_ ?_|intro hb)|(with_reducible rfl)|((with_reducible show @Eq ASt _ _);rfl) )))));all_goals ((try simp only [ThenA,InBlock,reduceIte,Nat.reduceEqDiff]);(try ((repeat ((fail_if_success (refine hK _ ?_));clear hK K));refine hK _ ?_;clear hK K)))
          all_goals repeat' (first|refine T.seqK fun K hK=>?_|refine T.block ?_|(refine T.reg (by kernel_rfl) fun K' hK'=>?_;simp only [startSt,frOf,List.map_cons,List.map_nil];(repeat' (first|(with_reducible refine WL.fin ?_;refine hK' _ ?_;clear hK' K')|((with_reducible refine WL.step fun K2 hK2=>?_);simp only [simprocAttr,implies_true,amz,tys,hy,hz,hd,evC];(repeat' (first|with_reducible (first|(refine hK2 _ ?_;clear hK2 K2)|refine And.intro ?_ ?_|intro hb) ))))))|refine T.skip ?_|refine T.exit ?_|refine T.condT rfl ?_|refine T.condF rfl ?_|refine T.cond rfl (fun hc=>?_) (fun hc=>?_)|refine T.ret ?_|simp only [ThenA,InBlock,reduceIte,Nat.reduceEqDiff]|((repeat ((fail_if_success (refine hK _ ?_));clear hK K));refine hK _ ?_;clear hK K))
          all_goals (refine FinA.ret (.inr rfl) Try.results46 ?_;simp only [ares,aresL,ares1,simprocAttr,implies_true,amz,tys,];rw [hbad hw])
        | false =>
          have hw:writesB y z=false:=by simp [writesB,h4,ho,hf]
          repeat' (first|refine T.seqK fun K hK=>?_|refine T.block ?_|(refine T.reg (by kernel_rfl) fun K' hK'=>?_;simp only [startSt,frOf,List.map_cons,List.map_nil];(repeat' (first|(with_reducible refine WL.fin ?_;refine hK' _ ?_;clear hK' K')|((with_reducible refine WL.step fun K2 hK2=>?_);simp only [simprocAttr,implies_true,amz,tys,hy,hz,hd,evC];(repeat' (first|with_reducible (first|(refine hK2 _ ?_;clear hK2 K2)|refine And.intro ?_ ?_|intro hb) ))))))|refine T.skip ?_|refine T.exit ?_|refine T.condT rfl ?_|refine T.condF rfl ?_|refine T.cond rfl (fun hc=>?_) (fun hc=>?_)|refine T.ret ?_|simp only [ThenA,InBlock,reduceIte,Nat.reduceEqDiff]|((repeat ((fail_if_success (refine hK _ ?_));clear hK K));refine hK _ ?_;clear hK K))
          refine T.comm [some (0,0),some (0,0),some (0,0),some (0,0),some (0,0),some (0,0),some (0,0),some (0,0),some (0,0),some (0,0),some (0,0),some (0,0),some (0,0),some (0,0),some (0,0),some (0,0),some (0,0),some (0,0),some (0,0),some (0,0),some (0,0),some (0,0),some (0,0),some (0,0),some (0,0),some (0,0),some (0,0),some (0,0),some (0,0),some (0,0),some (0,0),some (0,0),some (0,0),some (0,0),some (0,0),some (0,0),some (0,0),some (0,0),some (0,0),some (0,0)] (by kernel_rfl) (by kernel_rfl) fun K' hK'=>?_;simp only [List.map_cons,List.map_nil,List.zip_cons_cons,List.zip_nil_left];(repeat' (first|(with_reducible refine WC.fin ?_;refine hK' _ ?_;clear hK' K')|((first|(with_reducible refine WC.stepV fun K2 hK2=>?_)|(with_reducible refine WC.stepW fun K2 hK2=>?_));simp only [simprocAttr,implies_true,amz,WCg,WCv,WOw,allP,dav,Chk,List.filter_cons,List.filter_nil,bne_self_eq_false,Nat.reduceBneDiff,Bool.false_eq_true,tys,hy,hz,hd,evC,h4,ho,hf];(repeat' (first|(with_reducible refine hK2 _ _ ?_;clear hK2 K2)|with_reducible (first|(refine hK2 _ ?_;clear hK2 K2)|refine And.intro ?_ ?_|intro hb)|(with_reducible rfl)|((with_reducible show @Eq ASt _ _);rfl) )))));all_goals ((try simp only [ThenA,InBlock,reduceIte,Nat.reduceEqDiff]);(try ((repeat ((fail_if_success (refine hK _ ?_));clear hK K));refine hK _ ?_;clear hK K)))
          all_goals repeat' (first|refine T.seqK fun K hK=>?_|refine T.block ?_|(refine T.reg (by kernel_rfl) fun K' hK'=>?_;simp only [startSt,frOf,List.map_cons,List.map_nil];(repeat' (first|(with_reducible refine WL.fin ?_;refine hK' _ ?_;clear hK' K')|((with_reducible refine WL.step fun K2 hK2=>?_);simp only [simprocAttr,implies_true,amz,tys,hy,hz,hd,evC];(repeat' (first|with_reducible (first|(refine hK2 _ ?_;clear hK2 K2)|refine And.intro ?_ ?_|intro hb) ))))))|refine T.skip ?_|refine T.exit ?_|refine T.condT rfl ?_|refine T.condF rfl ?_|refine T.cond rfl (fun hc=>?_) (fun hc=>?_)|refine T.ret ?_|simp only [ThenA,InBlock,reduceIte,Nat.reduceEqDiff]|((repeat ((fail_if_success (refine hK _ ?_));clear hK K));refine hK _ ?_;clear hK K))
          all_goals (refine hgo hw _ ?_;refine Weak.of' rfl ?_;simp only [wks,reduceIte,Nat.reduceEqDiff,ASt.okB,AV.okB,Nat.reduceLT,implies_true,wrap_succ (show k < 1152921504606846976 by omega)])
      | false =>
        have hw:writesB y z=false:=by simp [writesB,h4,ho]
        repeat' (first|refine T.seqK fun K hK=>?_|refine T.block ?_|(refine T.reg (by kernel_rfl) fun K' hK'=>?_;simp only [startSt,frOf,List.map_cons,List.map_nil];(repeat' (first|(with_reducible refine WL.fin ?_;refine hK' _ ?_;clear hK' K')|((with_reducible refine WL.step fun K2 hK2=>?_);simp only [simprocAttr,implies_true,amz,tys,hy,hz,hd,evC];(repeat' (first|with_reducible (first|(refine hK2 _ ?_;clear hK2 K2)|refine And.intro ?_ ?_|intro hb) ))))))|refine T.skip ?_|refine T.exit ?_|refine T.condT rfl ?_|refine T.condF rfl ?_|refine T.cond rfl (fun hc=>?_) (fun hc=>?_)|refine T.ret ?_|simp only [ThenA,InBlock,reduceIte,Nat.reduceEqDiff]|((repeat ((fail_if_success (refine hK _ ?_));clear hK K));refine hK _ ?_;clear hK K))
        refine T.comm [some (0,0),some (0,0),some (0,0),some (0,0),some (0,0),some (0,0),some (0,0),some (0,0),some (0,0),some (0,0),some (0,0),some (0,0),some (0,0),some (0,0),some (0,0),some (0,0),some (0,0),some (0,0),some (0,0),some (0,0),some (0,0),some (0,0),some (0,0),some (0,0),some (0,0),some (0,0),some (0,0),some (0,0),some (0,0),some (0,0),some (0,0),some (0,0),some (0,0),some (0,0),some (0,0),some (0,0),some (0,0),some (0,0),some (0,0),some (0,0)] (by kernel_rfl) (by kernel_rfl) fun K' hK'=>?_;simp only [List.map_cons,List.map_nil,List.zip_cons_cons,List.zip_nil_left];(repeat' (first|(with_reducible refine WC.fin ?_;refine hK' _ ?_;clear hK' K')|((first|(with_reducible refine WC.stepV fun K2 hK2=>?_)|(with_reducible refine WC.stepW fun K2 hK2=>?_));simp only [simprocAttr,implies_true,amz,WCg,WCv,WOw,allP,dav,Chk,List.filter_cons,List.filter_nil,bne_self_eq_false,Nat.reduceBneDiff,Bool.false_eq_true,tys,hy,hz,hd,evC,h4,ho];(repeat' (first|(with_reducible refine hK2 _ _ ?_;clear hK2 K2)|with_reducible (first|(refine hK2 _ ?_;clear hK2 K2)|refine And.intro ?_ ?_|intro hb)|(with_reducible rfl)|((with_reducible show @Eq ASt _ _);rfl) )))));all_goals ((try simp only [ThenA,InBlock,reduceIte,Nat.reduceEqDiff]);(try ((repeat ((fail_if_success (refine hK _ ?_));clear hK K));refine hK _ ?_;clear hK K)))
        all_goals repeat' (first|refine T.seqK fun K hK=>?_|refine T.block ?_|(refine T.reg (by kernel_rfl) fun K' hK'=>?_;simp only [startSt,frOf,List.map_cons,List.map_nil];(repeat' (first|(with_reducible refine WL.fin ?_;refine hK' _ ?_;clear hK' K')|((with_reducible refine WL.step fun K2 hK2=>?_);simp only [simprocAttr,implies_true,amz,tys,hy,hz,hd,evC];(repeat' (first|with_reducible (first|(refine hK2 _ ?_;clear hK2 K2)|refine And.intro ?_ ?_|intro hb) ))))))|refine T.skip ?_|refine T.exit ?_|refine T.condT rfl ?_|refine T.condF rfl ?_|refine T.cond rfl (fun hc=>?_) (fun hc=>?_)|refine T.ret ?_|simp only [ThenA,InBlock,reduceIte,Nat.reduceEqDiff]|((repeat ((fail_if_success (refine hK _ ?_));clear hK K));refine hK _ ?_;clear hK K))
        all_goals (refine hgo hw _ ?_;refine Weak.of' rfl ?_;simp only [wks,reduceIte,Nat.reduceEqDiff,ASt.okB,AV.okB,Nat.reduceLT,implies_true,wrap_succ (show k < 1152921504606846976 by omega)])
    | false =>
      cases h5:(z.kind == 5) with
      | true =>
        cases ho:(z.obj == y.obj) with
        | true =>
          cases hf:(z.off == y.off) with
          | true =>
            have hw:writesB y z=true:=by simp [writesB,h5,ho,hf]
            repeat' (first|refine T.seqK fun K hK=>?_|refine T.block ?_|(refine T.reg (by kernel_rfl) fun K' hK'=>?_;simp only [startSt,frOf,List.map_cons,List.map_nil];(repeat' (first|(with_reducible refine WL.fin ?_;refine hK' _ ?_;clear hK' K')|((with_reducible refine WL.step fun K2 hK2=>?_);simp only [simprocAttr,implies_true,amz,tys,hy,hz,hd,evC];(repeat' (first|with_reducible (first|(refine hK2 _ ?_;clear hK2 K2)|refine And.intro ?_ ?_|intro hb) ))))))|refine T.skip ?_|refine T.exit ?_|refine T.condT rfl ?_|refine T.condF rfl ?_|refine T.cond rfl (fun hc=>?_) (fun hc=>?_)|refine T.ret ?_|simp only [ThenA,InBlock,reduceIte,Nat.reduceEqDiff]|((repeat ((fail_if_success (refine hK _ ?_));clear hK K));refine hK _ ?_;clear hK K))
            refine T.comm [some (0,0),some (0,0),some (0,0),some (0,0),some (0,0),some (0,0),some (0,0),some (0,0),some (0,0),some (0,0),some (0,0),some (0,0),some (0,0),some (0,0),some (0,0),some (0,0),some (0,0),some (0,0),some (0,0),some (0,0),some (0,0),some (0,0),some (0,0),some (0,0),some (0,0),some (0,0),some (0,0),some (0,0),some (0,0),some (0,0),some (0,0),some (0,0),some (0,0),some (0,0),some (0,0),some (0,0),some (0,0),some (0,0),some (0,0),some (0,0)] (by kernel_rfl) (by kernel_rfl) fun K' hK'=>?_;simp only [List.map_cons,List.map_nil,List.zip_cons_cons,List.zip_nil_left];(repeat' (first|(with_reducible refine WC.fin ?_;refine hK' _ ?_;clear hK' K')|((first|(with_reducible refine WC.stepV fun K2 hK2=>?_)|(with_reducible refine WC.stepW fun K2 hK2=>?_));simp only [simprocAttr,implies_true,amz,WCg,WCv,WOw,allP,dav,Chk,List.filter_cons,List.filter_nil,bne_self_eq_false,Nat.reduceBneDiff,Bool.false_eq_true,tys,hy,hz,hd,evC,h4,h5,ho,hf];(repeat' (first|(with_reducible refine hK2 _ _ ?_;clear hK2 K2)|with_reducible (first|(refine hK2 _ ?_;clear hK2 K2)|refine And.intro ?_ ?_|intro hb)|(with_reducible rfl)|((with_reducible show @Eq ASt _ _);rfl) )))));all_goals ((try simp only [ThenA,InBlock,reduceIte,Nat.reduceEqDiff]);(try ((repeat ((fail_if_success (refine hK _ ?_));clear hK K));refine hK _ ?_;clear hK K)))
            all_goals repeat' (first|refine T.seqK fun K hK=>?_|refine T.block ?_|(refine T.reg (by kernel_rfl) fun K' hK'=>?_;simp only [startSt,frOf,List.map_cons,List.map_nil];(repeat' (first|(with_reducible refine WL.fin ?_;refine hK' _ ?_;clear hK' K')|((with_reducible refine WL.step fun K2 hK2=>?_);simp only [simprocAttr,implies_true,amz,tys,hy,hz,hd,evC];(repeat' (first|with_reducible (first|(refine hK2 _ ?_;clear hK2 K2)|refine And.intro ?_ ?_|intro hb) ))))))|refine T.skip ?_|refine T.exit ?_|refine T.condT rfl ?_|refine T.condF rfl ?_|refine T.cond rfl (fun hc=>?_) (fun hc=>?_)|refine T.ret ?_|simp only [ThenA,InBlock,reduceIte,Nat.reduceEqDiff]|((repeat ((fail_if_success (refine hK _ ?_));clear hK K));refine hK _ ?_;clear hK K))
            all_goals (refine FinA.ret (.inr rfl) Try.results46 ?_;simp only [ares,aresL,ares1,simprocAttr,implies_true,amz,tys,];rw [hbad hw])
          | false =>
            have hw:writesB y z=false:=by simp [writesB,h5,ho,hf]
            repeat' (first|refine T.seqK fun K hK=>?_|refine T.block ?_|(refine T.reg (by kernel_rfl) fun K' hK'=>?_;simp only [startSt,frOf,List.map_cons,List.map_nil];(repeat' (first|(with_reducible refine WL.fin ?_;refine hK' _ ?_;clear hK' K')|((with_reducible refine WL.step fun K2 hK2=>?_);simp only [simprocAttr,implies_true,amz,tys,hy,hz,hd,evC];(repeat' (first|with_reducible (first|(refine hK2 _ ?_;clear hK2 K2)|refine And.intro ?_ ?_|intro hb) ))))))|refine T.skip ?_|refine T.exit ?_|refine T.condT rfl ?_|refine T.condF rfl ?_|refine T.cond rfl (fun hc=>?_) (fun hc=>?_)|refine T.ret ?_|simp only [ThenA,InBlock,reduceIte,Nat.reduceEqDiff]|((repeat ((fail_if_success (refine hK _ ?_));clear hK K));refine hK _ ?_;clear hK K))
            refine T.comm [some (0,0),some (0,0),some (0,0),some (0,0),some (0,0),some (0,0),some (0,0),some (0,0),some (0,0),some (0,0),some (0,0),some (0,0),some (0,0),some (0,0),some (0,0),some (0,0),some (0,0),some (0,0),some (0,0),some (0,0),some (0,0),some (0,0),some (0,0),some (0,0),some (0,0),some (0,0),some (0,0),some (0,0),some (0,0),some (0,0),some (0,0),some (0,0),some (0,0),some (0,0),some (0,0),some (0,0),some (0,0),some (0,0),some (0,0),some (0,0)] (by kernel_rfl) (by kernel_rfl) fun K' hK'=>?_;simp only [List.map_cons,List.map_nil,List.zip_cons_cons,List.zip_nil_left];(repeat' (first|(with_reducible refine WC.fin ?_;refine hK' _ ?_;clear hK' K')|((first|(with_reducible refine WC.stepV fun K2 hK2=>?_)|(with_reducible refine WC.stepW fun K2 hK2=>?_));simp only [simprocAttr,implies_true,amz,WCg,WCv,WOw,allP,dav,Chk,List.filter_cons,List.filter_nil,bne_self_eq_false,Nat.reduceBneDiff,Bool.false_eq_true,tys,hy,hz,hd,evC,h4,h5,ho,hf];(repeat' (first|(with_reducible refine hK2 _ _ ?_;clear hK2 K2)|with_reducible (first|(refine hK2 _ ?_;clear hK2 K2)|refine And.intro ?_ ?_|intro hb)|(with_reducible rfl)|((with_reducible show @Eq ASt _ _);rfl) )))));all_goals ((try simp only [ThenA,InBlock,reduceIte,Nat.reduceEqDiff]);(try ((repeat ((fail_if_success (refine hK _ ?_));clear hK K));refine hK _ ?_;clear hK K)))
            all_goals repeat' (first|refine T.seqK fun K hK=>?_|refine T.block ?_|(refine T.reg (by kernel_rfl) fun K' hK'=>?_;simp only [startSt,frOf,List.map_cons,List.map_nil];(repeat' (first|(with_reducible refine WL.fin ?_;refine hK' _ ?_;clear hK' K')|((with_reducible refine WL.step fun K2 hK2=>?_);simp only [simprocAttr,implies_true,amz,tys,hy,hz,hd,evC];(repeat' (first|with_reducible (first|(refine hK2 _ ?_;clear hK2 K2)|refine And.intro ?_ ?_|intro hb) ))))))|refine T.skip ?_|refine T.exit ?_|refine T.condT rfl ?_|refine T.condF rfl ?_|refine T.cond rfl (fun hc=>?_) (fun hc=>?_)|refine T.ret ?_|simp only [ThenA,InBlock,reduceIte,Nat.reduceEqDiff]|((repeat ((fail_if_success (refine hK _ ?_));clear hK K));refine hK _ ?_;clear hK K))
            all_goals (refine hgo hw _ ?_;refine Weak.of' rfl ?_;simp only [wks,reduceIte,Nat.reduceEqDiff,ASt.okB,AV.okB,Nat.reduceLT,implies_true,wrap_succ (show k < 1152921504606846976 by omega)])
        | false =>
          have hw:writesB y z=false:=by simp [writesB,h5,ho]
          repeat' (first|refine T.seqK fun K hK=>?_|refine T.block ?_|(refine T.reg (by kernel_rfl) fun K' hK'=>?_;simp only [startSt,frOf,List.map_cons,List.map_nil];(repeat' (first|(with_reducible refine WL.fin ?_;refine hK' _ ?_;clear hK' K')|((with_reducible refine WL.step fun K2 hK2=>?_);simp only [simprocAttr,implies_true,amz,tys,hy,hz,hd,evC];(repeat' (first|with_reducible (first|(refine hK2 _ ?_;clear hK2 K2)|refine And.intro ?_ ?_|intro hb) ))))))|refine T.skip ?_|refine T.exit ?_|refine T.condT rfl ?_|refine T.condF rfl ?_|refine T.cond rfl (fun hc=>?_) (fun hc=>?_)|refine T.ret ?_|simp only [ThenA,InBlock,reduceIte,Nat.reduceEqDiff]|((repeat ((fail_if_success (refine hK _ ?_));clear hK K));refine hK _ ?_;clear hK K))
          refine T.comm [some (0,0),some (0,0),some (0,0),some (0,0),some (0,0),some (0,0),some (0,0),some (0,0),some (0,0),some (0,0),some (0,0),some (0,0),some (0,0),some (0,0),some (0,0),some (0,0),some (0,0),some (0,0),some (0,0),some (0,0),some (0,0),some (0,0),some (0,0),some (0,0),some (0,0),some (0,0),some (0,0),some (0,0),some (0,0),some (0,0),some (0,0),some (0,0),some (0,0),some (0,0),some (0,0),some (0,0),some (0,0),some (0,0),some (0,0),some (0,0)] (by kernel_rfl) (by kernel_rfl) fun K' hK'=>?_;simp only [List.map_cons,List.map_nil,List.zip_cons_cons,List.zip_nil_left];(repeat' (first|(with_reducible refine WC.fin ?_;refine hK' _ ?_;clear hK' K')|((first|(with_reducible refine WC.stepV fun K2 hK2=>?_)|(with_reducible refine WC.stepW fun K2 hK2=>?_));simp only [simprocAttr,implies_true,amz,WCg,WCv,WOw,allP,dav,Chk,List.filter_cons,List.filter_nil,bne_self_eq_false,Nat.reduceBneDiff,Bool.false_eq_true,tys,hy,hz,hd,evC,h4,h5,ho];(repeat' (first|(with_reducible refine hK2 _ _ ?_;clear hK2 K2)|with_reducible (first|(refine hK2 _ ?_;clear hK2 K2)|refine And.intro ?_ ?_|intro hb)|(with_reducible rfl)|((with_reducible show @Eq ASt _ _);rfl) )))));all_goals ((try simp only [ThenA,InBlock,reduceIte,Nat.reduceEqDiff]);(try ((repeat ((fail_if_success (refine hK _ ?_));clear hK K));refine hK _ ?_;clear hK K)))
          all_goals repeat' (first|refine T.seqK fun K hK=>?_|refine T.block ?_|(refine T.reg (by kernel_rfl) fun K' hK'=>?_;simp only [startSt,frOf,List.map_cons,List.map_nil];(repeat' (first|(with_reducible refine WL.fin ?_;refine hK' _ ?_;clear hK' K')|((with_reducible refine WL.step fun K2 hK2=>?_);simp only [simprocAttr,implies_true,amz,tys,hy,hz,hd,evC];(repeat' (first|with_reducible (first|(refine hK2 _ ?_;clear hK2 K2)|refine And.intro ?_ ?_|intro hb) ))))))|refine T.skip ?_|refine T.exit ?_|refine T.condT rfl ?_|refine T.condF rfl ?_|refine T.cond rfl (fun hc=>?_) (fun hc=>?_)|refine T.ret ?_|simp only [ThenA,InBlock,reduceIte,Nat.reduceEqDiff]|((repeat ((fail_if_success (refine hK _ ?_));clear hK K));refine hK _ ?_;clear hK K))
          all_goals (refine hgo hw _ ?_;refine Weak.of' rfl ?_;simp only [wks,reduceIte,Nat.reduceEqDiff,ASt.okB,AV.okB,Nat.reduceLT,implies_true,wrap_succ (show k < 1152921504606846976 by omega)])
      | false =>
        have hw:writesB y z=false:=by simp [writesB,h4,h5]
        repeat' (first|refine T.seqK fun K hK=>?_|refine T.block ?_|(refine T.reg (by kernel_rfl) fun K' hK'=>?_;simp only [startSt,frOf,List.map_cons,List.map_nil];(repeat' (first|(with_reducible refine WL.fin ?_;refine hK' _ ?_;clear hK' K')|((with_reducible refine WL.step fun K2 hK2=>?_);simp only [simprocAttr,implies_true,amz,tys,hy,hz,hd,evC];(repeat' (first|with_reducible (first|(refine hK2 _ ?_;clear hK2 K2)|refine And.intro ?_ ?_|intro hb) ))))))|refine T.skip ?_|refine T.exit ?_|refine T.condT rfl ?_|refine T.condF rfl ?_|refine T.cond rfl (fun hc=>?_) (fun hc=>?_)|refine T.ret ?_|simp only [ThenA,InBlock,reduceIte,Nat.reduceEqDiff]|((repeat ((fail_if_success (refine hK _ ?_));clear hK K));refine hK _ ?_;clear hK K))
        refine T.comm [some (0,0),some (0,0),some (0,0),some (0,0),some (0,0),some (0,0),some (0,0),some (0,0),some (0,0),some (0,0),some (0,0),some (0,0),some (0,0),some (0,0),some (0,0),some (0,0),some (0,0),some (0,0),some (0,0),some (0,0),some (0,0),some (0,0),some (0,0),some (0,0),some (0,0),some (0,0),some (0,0),some (0,0),some (0,0),some (0,0),some (0,0),some (0,0),some (0,0),some (0,0),some (0,0),some (0,0),some (0,0),some (0,0),some (0,0),some (0,0)] (by kernel_rfl) (by kernel_rfl) fun K' hK'=>?_;simp only [List.map_cons,List.map_nil,List.zip_cons_cons,List.zip_nil_left];(repeat' (first|(with_reducible refine WC.fin ?_;refine hK' _ ?_;clear hK' K')|((first|(with_reducible refine WC.stepV fun K2 hK2=>?_)|(with_reducible refine WC.stepW fun K2 hK2=>?_));simp only [simprocAttr,implies_true,amz,WCg,WCv,WOw,allP,dav,Chk,List.filter_cons,List.filter_nil,bne_self_eq_false,Nat.reduceBneDiff,Bool.false_eq_true,tys,hy,hz,hd,evC,h4,h5];(repeat' (first|(with_reducible refine hK2 _ _ ?_;clear hK2 K2)|with_reducible (first|(refine hK2 _ ?_;clear hK2 K2)|refine And.intro ?_ ?_|intro hb)|(with_reducible rfl)|((with_reducible show @Eq ASt _ _);rfl) )))));all_goals ((try simp only [ThenA,InBlock,reduceIte,Nat.reduceEqDiff]);(try ((repeat ((fail_if_success (refine hK _ ?_));clear hK K));refine hK _ ?_;clear hK K)))
        all_goals repeat' (first|refine T.seqK fun K hK=>?_|refine T.block ?_|(refine T.reg (by kernel_rfl) fun K' hK'=>?_;simp only [startSt,frOf,List.map_cons,List.map_nil];(repeat' (first|(with_reducible refine WL.fin ?_;refine hK' _ ?_;clear hK' K')|((with_reducible refine WL.step fun K2 hK2=>?_);simp only [simprocAttr,implies_true,amz,tys,hy,hz,hd,evC];(repeat' (first|with_reducible (first|(refine hK2 _ ?_;clear hK2 K2)|refine And.intro ?_ ?_|intro hb) ))))))|refine T.skip ?_|refine T.exit ?_|refine T.condT rfl ?_|refine T.condF rfl ?_|refine T.cond rfl (fun hc=>?_) (fun hc=>?_)|refine T.ret ?_|simp only [ThenA,InBlock,reduceIte,Nat.reduceEqDiff]|((repeat ((fail_if_success (refine hK _ ?_));clear hK K));refine hK _ ?_;clear hK K))
        all_goals (refine hgo hw _ ?_;refine Weak.of' rfl ?_;simp only [wks,reduceIte,Nat.reduceEqDiff,ASt.okB,AV.okB,Nat.reduceLT,implies_true,wrap_succ (show k < 1152921504606846976 by omega)])
  · have hd:decide ((k:Int) < (j:Int))=false:=by simpa using hlt
    obtain rfl:k=j:=by omega
    repeat' (first|refine T.seqK fun K hK=>?_|refine T.block ?_|(refine T.reg (by kernel_rfl) fun K' hK'=>?_;simp only [startSt,frOf,List.map_cons,List.map_nil];(repeat' (first|(with_reducible refine WL.fin ?_;refine hK' _ ?_;clear hK' K')|((with_reducible refine WL.step fun K2 hK2=>?_);simp only [simprocAttr,implies_true,amz,tys,hd];(repeat' (first|with_reducible (first|(refine hK2 _ ?_;clear hK2 K2)|refine And.intro ?_ ?_|intro hb) ))))))|refine T.skip ?_|refine T.exit ?_|refine T.condT rfl ?_|refine T.condF rfl ?_|refine T.cond rfl (fun hc=>?_) (fun hc=>?_)|refine T.ret ?_|simp only [ThenA,InBlock,reduceIte,Nat.reduceEqDiff]|((repeat ((fail_if_success (refine hK _ ?_));clear hK K));refine hK _ ?_;clear hK K))
    refine FinA.ret (.inr rfl) Try.results46 ?_;simp only [ares,aresL,ares1,simprocAttr,implies_true,amz,tys,]
    simp [atomB,hn]
end Go.Proofs.Ytnckehomadnhoaa
namespace Go.Proofs.Ytnckehomadnhoaa
open Go.RowKit Go.Sort
set_option linter.unusedSimpArgs false
set_option linter.unusedVariables false
set_option maxHeartbeats 16000000 in
set_option maxRecDepth 100000 in
theorem imm_ok (l:List Ev) (i j:Nat) (x y:Ev) (hx:l[i]? = some x) (hy:l[j]? = some y) (hij:i < j) (hl:l.length ≤ 1000000):PureC Try.prog 34 [.p (.seq 9 (l.map evC)),.int i,.int j] (.bool (immB l x y i j)):=by
  have hP:=program_ok l i j x y hx hy hij hl
  have hF:=first_ok l j y hy hl
  have hA:=atomic_ok l i j y hy hij hl
  refine PureC.of Try.func34 rfl 126 rfl (by decide) (by simp [AV.okB]) ?_
  repeat' (first|refine T.seqK fun K hK=>?_|refine T.block ?_|refine T.skip ?_|refine T.exit ?_|refine T.condT rfl ?_|refine T.condF rfl ?_|refine T.cond rfl (fun hc=>?_) (fun hc=>?_)|refine T.ret ?_|simp only [ThenA,InBlock,reduceIte,Nat.reduceEqDiff]|((repeat ((fail_if_success (refine hK _ ?_));clear hK K));refine hK _ ?_;clear hK K))
  (refine T.reg (by kernel_rfl) fun K' hK'=>?_;simp only [startSt,frOf,List.map_cons,List.map_nil];(repeat' (first|(with_reducible refine WL.fin ?_;refine hK' _ ?_;clear hK' K')|((with_reducible refine WL.step fun K2 hK2=>?_);simp only [simprocAttr,implies_true,amz,tys,hx,hy,evC];(repeat' (first|with_reducible (first|(refine hK2 _ ?_;clear hK2 K2)|refine And.intro ?_ ?_|intro hb) )))));all_goals ((try simp only [ThenA,InBlock,reduceIte,Nat.reduceEqDiff]);(try ((repeat ((fail_if_success (refine hK _ ?_));clear hK K));refine hK _ ?_;clear hK K))))
  repeat' (first|refine T.seqK fun K hK=>?_|refine T.block ?_|refine T.skip ?_|refine T.exit ?_|refine T.condT rfl ?_|refine T.condF rfl ?_|refine T.cond rfl (fun hc=>?_) (fun hc=>?_)|refine T.ret ?_|simp only [ThenA,InBlock,reduceIte,Nat.reduceEqDiff]|((repeat ((fail_if_success (refine hK _ ?_));clear hK K));refine hK _ ?_;clear hK K))
  (refine T.reg (by kernel_rfl) fun K' hK'=>?_;simp only [startSt,frOf,List.map_cons,List.map_nil];(repeat' (first|(with_reducible refine WL.fin ?_;refine hK' _ ?_;clear hK' K')|((with_reducible refine WL.step fun K2 hK2=>?_);simp only [simprocAttr,implies_true,amz,tys,hx,hy,evC];(repeat' (first|with_reducible (first|(refine hK2 _ ?_;clear hK2 K2)|refine And.intro ?_ ?_|intro hb) )))));all_goals ((try simp only [ThenA,InBlock,reduceIte,Nat.reduceEqDiff]);(try ((repeat ((fail_if_success (refine hK _ ?_));clear hK K));refine hK _ ?_;clear hK K))))
  repeat' (first|refine T.seqK fun K hK=>?_|refine T.block ?_|refine T.skip ?_|refine T.exit ?_|refine T.condT rfl ?_|refine T.condF rfl ?_|refine T.cond rfl (fun hc=>?_) (fun hc=>?_)|refine T.ret ?_|simp only [ThenA,InBlock,reduceIte,Nat.reduceEqDiff]|((repeat ((fail_if_success (refine hK _ ?_));clear hK K));refine hK _ ?_;clear hK K))
  (refine T.reg (by kernel_rfl) fun K' hK'=>?_;simp only [startSt,frOf,List.map_cons,List.map_nil];(repeat' (first|(with_reducible refine WL.fin ?_;refine hK' _ ?_;clear hK' K')|((with_reducible refine WL.step fun K2 hK2=>?_);simp only [simprocAttr,implies_true,amz,tys,hx,hy,evC];(repeat' (first|with_reducible (first|(refine hK2 _ ?_;clear hK2 K2)|refine And.intro ?_ ?_|intro hb) )))));all_goals ((try simp only [ThenA,InBlock,reduceIte,Nat.reduceEqDiff]);(try ((repeat ((fail_if_success (refine hK _ ?_));clear hK K));refine hK _ ?_;clear hK K))))
  repeat' (first|refine T.seqK fun K hK=>?_|refine T.block ?_|refine T.skip ?_|refine T.exit ?_|refine T.condT rfl ?_|refine T.condF rfl ?_|refine T.cond rfl (fun hc=>?_) (fun hc=>?_)|refine T.ret ?_|simp only [ThenA,InBlock,reduceIte,Nat.reduceEqDiff]|((repeat ((fail_if_success (refine hK _ ?_));clear hK K));refine hK _ ?_;clear hK K))
  suffices hmid : ∀ s',Weak s' ⟨[(0,.p (.seq 9 (l.map evC))),(1,.int i),(2,.int j),(6,.bool false),(7,.ptr 0 0),(8,.ptr 1 0),(37,.bool (progB l x y i j || stgoB l x y j))],[(1,.boxP none 44 ((evC y).map .p)),(0,.boxP none 44 ((evC x).map .p))],126,2⟩→K s' by
    clear hK
    have hK:=hmid
    clear hmid
    cases hp:progB l x y i j with
    | true =>
      rw [hp] at hP
      (refine T.reg (by kernel_rfl) fun K' hK'=>?_;simp only [startSt,frOf,List.map_cons,List.map_nil];(repeat' (first|(with_reducible refine WL.fin ?_;refine hK' _ ?_;clear hK' K')|((with_reducible refine WL.step fun K2 hK2=>?_);simp only [simprocAttr,implies_true,amz,tys,evC];(repeat' (first|with_reducible (first|(refine hK2 _ ?_;clear hK2 K2)|refine And.intro ?_ ?_|intro hb)|((first|(with_reducible apply callArmO)|(with_reducible apply callArm));case h=>exact CallV.plain (Ent.of Try.func35 (by kernel_rfl) rfl) (hP) (by simp [AV.okB])))))));all_goals ((try simp only [ThenA,InBlock,reduceIte,Nat.reduceEqDiff]);(try ((repeat ((fail_if_success (refine hK _ ?_));clear hK K));refine hK _ ?_;clear hK K))))
      all_goals (refine Weak.of' rfl ?_;simp only [wks,reduceIte,Nat.reduceEqDiff,ASt.okB,AV.okB,Nat.reduceLT,implies_true,evC,List.map_cons,List.map_nil,hp,Bool.true_or])
    | false =>
      rw [hp] at hP
      cases h14:(x.kind == 14) with
      | false =>
        (refine T.reg (by kernel_rfl) fun K' hK'=>?_;simp only [startSt,frOf,List.map_cons,List.map_nil];(repeat' (first|(with_reducible refine WL.fin ?_;refine hK' _ ?_;clear hK' K')|((with_reducible refine WL.step fun K2 hK2=>?_);simp only [simprocAttr,implies_true,amz,tys,evC,h14];(repeat' (first|with_reducible (first|(refine hK2 _ ?_;clear hK2 K2)|refine And.intro ?_ ?_|intro hb)|((first|(with_reducible apply callArmO)|(with_reducible apply callArm));case h=>exact CallV.plain (Ent.of Try.func35 (by kernel_rfl) rfl) (hP) (by simp [AV.okB])))))));all_goals ((try simp only [ThenA,InBlock,reduceIte,Nat.reduceEqDiff]);(try ((repeat ((fail_if_success (refine hK _ ?_));clear hK K));refine hK _ ?_;clear hK K))))
        all_goals (refine Weak.of' rfl ?_;simp only [wks,reduceIte,Nat.reduceEqDiff,ASt.okB,AV.okB,Nat.reduceLT,implies_true,evC,List.map_cons,List.map_nil,stgoB,hp,h14,Bool.false_or,Bool.false_and])
      | true =>
        cases hk:(x.k == y.g) with
        | false =>
          (refine T.reg (by kernel_rfl) fun K' hK'=>?_;simp only [startSt,frOf,List.map_cons,List.map_nil];(repeat' (first|(with_reducible refine WL.fin ?_;refine hK' _ ?_;clear hK' K')|((with_reducible refine WL.step fun K2 hK2=>?_);simp only [simprocAttr,implies_true,amz,tys,evC,h14,hk];(repeat' (first|with_reducible (first|(refine hK2 _ ?_;clear hK2 K2)|refine And.intro ?_ ?_|intro hb)|((first|(with_reducible apply callArmO)|(with_reducible apply callArm));case h=>exact CallV.plain (Ent.of Try.func35 (by kernel_rfl) rfl) (hP) (by simp [AV.okB])))))));all_goals ((try simp only [ThenA,InBlock,reduceIte,Nat.reduceEqDiff]);(try ((repeat ((fail_if_success (refine hK _ ?_));clear hK K));refine hK _ ?_;clear hK K))))
          all_goals (refine Weak.of' rfl ?_;simp only [wks,reduceIte,Nat.reduceEqDiff,ASt.okB,AV.okB,Nat.reduceLT,implies_true,evC,List.map_cons,List.map_nil,stgoB,hp,h14,hk,Bool.false_or,Bool.false_and,Bool.and_false])
        | true =>
          (refine T.reg (by kernel_rfl) fun K' hK'=>?_;simp only [startSt,frOf,List.map_cons,List.map_nil];(repeat' (first|(with_reducible refine WL.fin ?_;refine hK' _ ?_;clear hK' K')|((with_reducible refine WL.step fun K2 hK2=>?_);simp only [simprocAttr,implies_true,amz,tys,evC,h14,hk];(repeat' (first|with_reducible (first|(refine hK2 _ ?_;clear hK2 K2)|refine And.intro ?_ ?_|intro hb)|((first|(with_reducible apply callArmO)|(with_reducible apply callArm));case h=>exact CallV.plain (Ent.of Try.func35 (by kernel_rfl) rfl) (hP) (by simp [AV.okB]))|((first|(with_reducible apply callArmO)|(with_reducible apply callArm));case h=>exact CallV.plain (Ent.of Try.func45 (by kernel_rfl) rfl) (hF) (by simp [AV.okB])))))));all_goals ((try simp only [ThenA,InBlock,reduceIte,Nat.reduceEqDiff]);(try ((repeat ((fail_if_success (refine hK _ ?_));clear hK K));refine hK _ ?_;clear hK K))))
          all_goals (refine Weak.of' rfl ?_;simp only [wks,reduceIte,Nat.reduceEqDiff,ASt.okB,AV.okB,Nat.reduceLT,implies_true,evC,List.map_cons,List.map_nil,stgoB,hp,h14,hk,Bool.false_or,Bool.true_and])
  intro s' hw
  refine hK s' ?_
  refine T.weak hw ?_
  clear hK hw s'
  cases h1:(progB l x y i j || stgoB l x y j) with
  | true =>
    repeat' (first|refine T.seqK fun K hK=>?_|refine T.block ?_|(refine T.reg (by kernel_rfl) fun K' hK'=>?_;simp only [startSt,frOf,List.map_cons,List.map_nil];(repeat' (first|(with_reducible refine WL.fin ?_;refine hK' _ ?_;clear hK' K')|((with_reducible refine WL.step fun K2 hK2=>?_);simp only [simprocAttr,implies_true,amz,tys];(repeat' (first|with_reducible (first|(refine hK2 _ ?_;clear hK2 K2)|refine And.intro ?_ ?_|intro hb) ))))))|refine T.skip ?_|refine T.exit ?_|refine T.condT rfl ?_|refine T.condF rfl ?_|refine T.cond rfl (fun hc=>?_) (fun hc=>?_)|refine T.ret ?_|simp only [ThenA,InBlock,reduceIte,Nat.reduceEqDiff]|((repeat ((fail_if_success (refine hK _ ?_));clear hK K));refine hK _ ?_;clear hK K))
    all_goals (refine FinA.ret (.inr rfl) Try.results34 ?_;simp only [ares,aresL,ares1,simprocAttr,implies_true,amz,tys,])
    simp [immB,h1]
  | false =>
    cases ho:(x.obj != y.obj) with
    | true =>
      repeat' (first|refine T.seqK fun K hK=>?_|refine T.block ?_|(refine T.reg (by kernel_rfl) fun K' hK'=>?_;simp only [startSt,frOf,List.map_cons,List.map_nil];(repeat' (first|(with_reducible refine WL.fin ?_;refine hK' _ ?_;clear hK' K')|((with_reducible refine WL.step fun K2 hK2=>?_);simp only [simprocAttr,implies_true,amz,tys,evC,Bool.not_true,Bool.not_false,bne_self_eq_false,ho];(repeat' (first|with_reducible (first|(refine hK2 _ ?_;clear hK2 K2)|refine And.intro ?_ ?_|intro hb) ))))))|refine T.skip ?_|refine T.exit ?_|refine T.condT rfl ?_|refine T.condF rfl ?_|refine T.cond rfl (fun hc=>?_) (fun hc=>?_)|refine T.ret ?_|simp only [ThenA,InBlock,reduceIte,Nat.reduceEqDiff]|((repeat ((fail_if_success (refine hK _ ?_));clear hK K));refine hK _ ?_;clear hK K))
      all_goals (refine FinA.ret (.inr rfl) Try.results34 ?_;simp only [ares,aresL,ares1,simprocAttr,implies_true,amz,tys,];(try simp [immB,kndB,h1,ho]))
    | false =>
      cases hf:(x.off != y.off) with
      | true =>
        repeat' (first|refine T.seqK fun K hK=>?_|refine T.block ?_|(refine T.reg (by kernel_rfl) fun K' hK'=>?_;simp only [startSt,frOf,List.map_cons,List.map_nil];(repeat' (first|(with_reducible refine WL.fin ?_;refine hK' _ ?_;clear hK' K')|((with_reducible refine WL.step fun K2 hK2=>?_);simp only [simprocAttr,implies_true,amz,tys,evC,Bool.not_true,Bool.not_false,bne_self_eq_false,ho,hf];(repeat' (first|with_reducible (first|(refine hK2 _ ?_;clear hK2 K2)|refine And.intro ?_ ?_|intro hb) ))))))|refine T.skip ?_|refine T.exit ?_|refine T.condT rfl ?_|refine T.condF rfl ?_|refine T.cond rfl (fun hc=>?_) (fun hc=>?_)|refine T.ret ?_|simp only [ThenA,InBlock,reduceIte,Nat.reduceEqDiff]|((repeat ((fail_if_success (refine hK _ ?_));clear hK K));refine hK _ ?_;clear hK K))
        all_goals (refine FinA.ret (.inr rfl) Try.results34 ?_;simp only [ares,aresL,ares1,simprocAttr,implies_true,amz,tys,];(try simp [immB,kndB,h1,ho,hf]))
      | false =>
        have hi:immB l x y i j=kndB l x y i j:=by simp [immB,h1,ho,hf]
        rw [hi]
        cases h15:(x.kind == 15) with
        | true =>
          cases y18:(y.kind == 18) with
          | true =>
            repeat' (first|refine T.seqK fun K hK=>?_|refine T.block ?_|(refine T.reg (by kernel_rfl) fun K' hK'=>?_;simp only [startSt,frOf,List.map_cons,List.map_nil];(repeat' (first|(with_reducible refine WL.fin ?_;refine hK' _ ?_;clear hK' K')|((with_reducible refine WL.step fun K2 hK2=>?_);simp only [simprocAttr,implies_true,amz,tys,evC,Bool.not_true,Bool.not_false,bne_self_eq_false,ho,hf,h15,y18];(repeat' (first|with_reducible (first|(refine hK2 _ ?_;clear hK2 K2)|refine And.intro ?_ ?_|intro hb) ))))))|refine T.skip ?_|refine T.exit ?_|refine T.condT rfl ?_|refine T.condF rfl ?_|refine T.cond rfl (fun hc=>?_) (fun hc=>?_)|refine T.ret ?_|simp only [ThenA,InBlock,reduceIte,Nat.reduceEqDiff]|((repeat ((fail_if_success (refine hK _ ?_));clear hK K));refine hK _ ?_;clear hK K))
            all_goals (refine FinA.ret (.inr rfl) Try.results34 ?_;simp only [ares,aresL,ares1,simprocAttr,implies_true,amz,tys,];(try simp [immB,kndB,h1,ho,hf,h15,y18]))
          | false =>
            repeat' (first|refine T.seqK fun K hK=>?_|refine T.block ?_|(refine T.reg (by kernel_rfl) fun K' hK'=>?_;simp only [startSt,frOf,List.map_cons,List.map_nil];(repeat' (first|(with_reducible refine WL.fin ?_;refine hK' _ ?_;clear hK' K')|((with_reducible refine WL.step fun K2 hK2=>?_);simp only [simprocAttr,implies_true,amz,tys,evC,Bool.not_true,Bool.not_false,bne_self_eq_false,ho,hf,h15,y18];(repeat' (first|with_reducible (first|(refine hK2 _ ?_;clear hK2 K2)|refine And.intro ?_ ?_|intro hb) ))))))|refine T.skip ?_|refine T.exit ?_|refine T.condT rfl ?_|refine T.condF rfl ?_|refine T.cond rfl (fun hc=>?_) (fun hc=>?_)|refine T.ret ?_|simp only [ThenA,InBlock,reduceIte,Nat.reduceEqDiff]|((repeat ((fail_if_success (refine hK _ ?_));clear hK K));refine hK _ ?_;clear hK K))
            all_goals (refine FinA.ret (.inr rfl) Try.results34 ?_;simp only [ares,aresL,ares1,simprocAttr,implies_true,amz,tys,];(try simp [immB,kndB,h1,ho,hf,h15,y18]))
        | false =>
          cases h17:(x.kind == 17) with
          | true =>
            cases y16:(y.kind == 16) with
            | true =>
              repeat' (first|refine T.seqK fun K hK=>?_|refine T.block ?_|(refine T.reg (by kernel_rfl) fun K' hK'=>?_;simp only [startSt,frOf,List.map_cons,List.map_nil];(repeat' (first|(with_reducible refine WL.fin ?_;refine hK' _ ?_;clear hK' K')|((with_reducible refine WL.step fun K2 hK2=>?_);simp only [simprocAttr,implies_true,amz,tys,evC,Bool.not_true,Bool.not_false,bne_self_eq_false,ho,hf,h15,h17,y16];(repeat' (first|with_reducible (first|(refine hK2 _ ?_;clear hK2 K2)|refine And.intro ?_ ?_|intro hb) ))))))|refine T.skip ?_|refine T.exit ?_|refine T.condT rfl ?_|refine T.condF rfl ?_|refine T.cond rfl (fun hc=>?_) (fun hc=>?_)|refine T.ret ?_|simp only [ThenA,InBlock,reduceIte,Nat.reduceEqDiff]|((repeat ((fail_if_success (refine hK _ ?_));clear hK K));refine hK _ ?_;clear hK K))
              all_goals (refine FinA.ret (.inr rfl) Try.results34 ?_;simp only [ares,aresL,ares1,simprocAttr,implies_true,amz,tys,];(try simp [immB,kndB,h1,ho,hf,h15,h17,y16]))
            | false =>
              repeat' (first|refine T.seqK fun K hK=>?_|refine T.block ?_|(refine T.reg (by kernel_rfl) fun K' hK'=>?_;simp only [startSt,frOf,List.map_cons,List.map_nil];(repeat' (first|(with_reducible refine WL.fin ?_;refine hK' _ ?_;clear hK' K')|((with_reducible refine WL.step fun K2 hK2=>?_);simp only [simprocAttr,implies_true,amz,tys,evC,Bool.not_true,Bool.not_false,bne_self_eq_false,ho,hf,h15,h17,y16];(repeat' (first|with_reducible (first|(refine hK2 _ ?_;clear hK2 K2)|refine And.intro ?_ ?_|intro hb) ))))))|refine T.skip ?_|refine T.exit ?_|refine T.condT rfl ?_|refine T.condF rfl ?_|refine T.cond rfl (fun hc=>?_) (fun hc=>?_)|refine T.ret ?_|simp only [ThenA,InBlock,reduceIte,Nat.reduceEqDiff]|((repeat ((fail_if_success (refine hK _ ?_));clear hK K));refine hK _ ?_;clear hK K))
              all_goals (refine FinA.ret (.inr rfl) Try.results34 ?_;simp only [ares,aresL,ares1,simprocAttr,implies_true,amz,tys,];(try simp [immB,kndB,h1,ho,hf,h15,h17,y16]))
          | false =>
            cases h19:(x.kind == 19) with
            | true =>
              repeat' (first|refine T.seqK fun K hK=>?_|refine T.block ?_|(refine T.reg (by kernel_rfl) fun K' hK'=>?_;simp only [startSt,frOf,List.map_cons,List.map_nil];(repeat' (first|(with_reducible refine WL.fin ?_;refine hK' _ ?_;clear hK' K')|((with_reducible refine WL.step fun K2 hK2=>?_);simp only [simprocAttr,implies_true,amz,tys,evC,Bool.not_true,Bool.not_false,bne_self_eq_false,ho,hf,h15,h17,h19];(repeat' (first|with_reducible (first|(refine hK2 _ ?_;clear hK2 K2)|refine And.intro ?_ ?_|intro hb) ))))))|refine T.skip ?_|refine T.exit ?_|refine T.condT rfl ?_|refine T.condF rfl ?_|refine T.cond rfl (fun hc=>?_) (fun hc=>?_)|refine T.ret ?_|simp only [ThenA,InBlock,reduceIte,Nat.reduceEqDiff]|((repeat ((fail_if_success (refine hK _ ?_));clear hK K));refine hK _ ?_;clear hK K))
              all_goals (refine FinA.ret (.inr rfl) Try.results34 ?_;simp only [ares,aresL,ares1,simprocAttr,implies_true,amz,tys,];(try simp [immB,kndB,h1,ho,hf,h15,h17,h19]))
            | false =>
              cases h7:(x.kind == 7) with
              | true =>
                cases y6:(y.kind == 6) with
                | true =>
                  repeat' (first|refine T.seqK fun K hK=>?_|refine T.block ?_|(refine T.reg (by kernel_rfl) fun K' hK'=>?_;simp only [startSt,frOf,List.map_cons,List.map_nil];(repeat' (first|(with_reducible refine WL.fin ?_;refine hK' _ ?_;clear hK' K')|((with_reducible refine WL.step fun K2 hK2=>?_);simp only [simprocAttr,implies_true,amz,tys,evC,Bool.not_true,Bool.not_false,bne_self_eq_false,ho,hf,h15,h17,h19,h7,y6];(repeat' (first|with_reducible (first|(refine hK2 _ ?_;clear hK2 K2)|refine And.intro ?_ ?_|intro hb) ))))))|refine T.skip ?_|refine T.exit ?_|refine T.condT rfl ?_|refine T.condF rfl ?_|refine T.cond rfl (fun hc=>?_) (fun hc=>?_)|refine T.ret ?_|simp only [ThenA,InBlock,reduceIte,Nat.reduceEqDiff]|((repeat ((fail_if_success (refine hK _ ?_));clear hK K));refine hK _ ?_;clear hK K))
                  all_goals (refine FinA.ret (.inr rfl) Try.results34 ?_;simp only [ares,aresL,ares1,simprocAttr,implies_true,amz,tys,];(try simp [immB,kndB,h1,ho,hf,h15,h17,h19,h7,y6]))
                | false =>
                  repeat' (first|refine T.seqK fun K hK=>?_|refine T.block ?_|(refine T.reg (by kernel_rfl) fun K' hK'=>?_;simp only [startSt,frOf,List.map_cons,List.map_nil];(repeat' (first|(with_reducible refine WL.fin ?_;refine hK' _ ?_;clear hK' K')|((with_reducible refine WL.step fun K2 hK2=>?_);simp only [simprocAttr,implies_true,amz,tys,evC,Bool.not_true,Bool.not_false,bne_self_eq_false,ho,hf,h15,h17,h19,h7,y6];(repeat' (first|with_reducible (first|(refine hK2 _ ?_;clear hK2 K2)|refine And.intro ?_ ?_|intro hb) ))))))|refine T.skip ?_|refine T.exit ?_|refine T.condT rfl ?_|refine T.condF rfl ?_|refine T.cond rfl (fun hc=>?_) (fun hc=>?_)|refine T.ret ?_|simp only [ThenA,InBlock,reduceIte,Nat.reduceEqDiff]|((repeat ((fail_if_success (refine hK _ ?_));clear hK K));refine hK _ ?_;clear hK K))
                  all_goals (refine FinA.ret (.inr rfl) Try.results34 ?_;simp only [ares,aresL,ares1,simprocAttr,implies_true,amz,tys,];(try simp [immB,kndB,h1,ho,hf,h15,h17,h19,h7,y6]))
              | false =>
                cases h9:(x.kind == 9) with
                | true =>
                  repeat' (first|refine T.seqK fun K hK=>?_|refine T.block ?_|(refine T.reg (by kernel_rfl) fun K' hK'=>?_;simp only [startSt,frOf,List.map_cons,List.map_nil];(repeat' (first|(with_reducible refine WL.fin ?_;refine hK' _ ?_;clear hK' K')|((with_reducible refine WL.step fun K2 hK2=>?_);simp only [simprocAttr,implies_true,amz,tys,evC,Bool.not_true,Bool.not_false,bne_self_eq_false,ho,hf,h15,h17,h19,h7,h9];(repeat' (first|with_reducible (first|(refine hK2 _ ?_;clear hK2 K2)|refine And.intro ?_ ?_|intro hb) ))))))|refine T.skip ?_|refine T.exit ?_|refine T.condT rfl ?_|refine T.condF rfl ?_|refine T.cond rfl (fun hc=>?_) (fun hc=>?_)|refine T.ret ?_|simp only [ThenA,InBlock,reduceIte,Nat.reduceEqDiff]|((repeat ((fail_if_success (refine hK _ ?_));clear hK K));refine hK _ ?_;clear hK K))
                  all_goals (refine FinA.ret (.inr rfl) Try.results34 ?_;simp only [ares,aresL,ares1,simprocAttr,implies_true,amz,tys,];(try simp [immB,kndB,h1,ho,hf,h15,h17,h19,h7,h9]))
                | false =>
                  cases h10:(x.kind == 10) with
                  | true =>
                    repeat' (first|refine T.seqK fun K hK=>?_|refine T.block ?_|(refine T.reg (by kernel_rfl) fun K' hK'=>?_;simp only [startSt,frOf,List.map_cons,List.map_nil];(repeat' (first|(with_reducible refine WL.fin ?_;refine hK' _ ?_;clear hK' K')|((with_reducible refine WL.step fun K2 hK2=>?_);simp only [simprocAttr,implies_true,amz,tys,evC,Bool.not_true,Bool.not_false,bne_self_eq_false,ho,hf,h15,h17,h19,h7,h9,h10];(repeat' (first|with_reducible (first|(refine hK2 _ ?_;clear hK2 K2)|refine And.intro ?_ ?_|intro hb) ))))))|refine T.skip ?_|refine T.exit ?_|refine T.condT rfl ?_|refine T.condF rfl ?_|refine T.cond rfl (fun hc=>?_) (fun hc=>?_)|refine T.ret ?_|simp only [ThenA,InBlock,reduceIte,Nat.reduceEqDiff]|((repeat ((fail_if_success (refine hK _ ?_));clear hK K));refine hK _ ?_;clear hK K))
                    all_goals (refine FinA.ret (.inr rfl) Try.results34 ?_;simp only [ares,aresL,ares1,simprocAttr,implies_true,amz,tys,];(try simp [immB,kndB,h1,ho,hf,h15,h17,h19,h7,h9,h10]))
                  | false =>
                    cases h12:(x.kind == 12) with
                    | true =>
                      repeat' (first|refine T.seqK fun K hK=>?_|refine T.block ?_|(refine T.reg (by kernel_rfl) fun K' hK'=>?_;simp only [startSt,frOf,List.map_cons,List.map_nil];(repeat' (first|(with_reducible refine WL.fin ?_;refine hK' _ ?_;clear hK' K')|((with_reducible refine WL.step fun K2 hK2=>?_);simp only [simprocAttr,implies_true,amz,tys,evC,Bool.not_true,Bool.not_false,bne_self_eq_false,ho,hf,h15,h17,h19,h7,h9,h10,h12];(repeat' (first|with_reducible (first|(refine hK2 _ ?_;clear hK2 K2)|refine And.intro ?_ ?_|intro hb) ))))))|refine T.skip ?_|refine T.exit ?_|refine T.condT rfl ?_|refine T.condF rfl ?_|refine T.cond rfl (fun hc=>?_) (fun hc=>?_)|refine T.ret ?_|simp only [ThenA,InBlock,reduceIte,Nat.reduceEqDiff]|((repeat ((fail_if_success (refine hK _ ?_));clear hK K));refine hK _ ?_;clear hK K))
                      all_goals (refine FinA.ret (.inr rfl) Try.results34 ?_;simp only [ares,aresL,ares1,simprocAttr,implies_true,amz,tys,];(try simp [immB,kndB,h1,ho,hf,h15,h17,h19,h7,h9,h10,h12]))
                    | false =>
                      cases h4:(x.kind == 4) with
                      | true =>
                        cases y3:(y.kind == 3) with
                        | true =>
                          repeat' (first|refine T.seqK fun K hK=>?_|refine T.block ?_|(refine T.reg (by kernel_rfl) fun K' hK'=>?_;simp only [startSt,frOf,List.map_cons,List.map_nil];(repeat' (first|(with_reducible refine WL.fin ?_;refine hK' _ ?_;clear hK' K')|((with_reducible refine WL.step fun K2 hK2=>?_);simp only [simprocAttr,implies_true,amz,tys,evC,Bool.not_true,Bool.not_false,bne_self_eq_false,ho,hf,h15,h17,h19,h7,h9,h10,h12,h4,y3];(repeat' (first|with_reducible (first|(refine hK2 _ ?_;clear hK2 K2)|refine And.intro ?_ ?_|intro hb)|((first|(with_reducible apply callArmO)|(with_reducible apply callArm));case h=>exact CallV.plain (Ent.of Try.func46 (by kernel_rfl) rfl) (hA) (by simp [AV.okB]))))))))|refine T.skip ?_|refine T.exit ?_|refine T.condT rfl ?_|refine T.condF rfl ?_|refine T.cond rfl (fun hc=>?_) (fun hc=>?_)|refine T.ret ?_|simp only [ThenA,InBlock,reduceIte,Nat.reduceEqDiff]|((repeat ((fail_if_success (refine hK _ ?_));clear hK K));refine hK _ ?_;clear hK K))
                          all_goals (refine FinA.ret (.inr rfl) Try.results34 ?_;simp only [ares,aresL,ares1,simprocAttr,implies_true,amz,tys,];(try simp [immB,kndB,h1,ho,hf,h15,h17,h19,h7,h9,h10,h12,h4,y3]))
                        | false =>
                          cases y5:(y.kind == 5) with
                          | true =>
                            repeat' (first|refine T.seqK fun K hK=>?_|refine T.block ?_|(refine T.reg (by kernel_rfl) fun K' hK'=>?_;simp only [startSt,frOf,List.map_cons,List.map_nil];(repeat' (first|(with_reducible refine WL.fin ?_;refine hK' _ ?_;clear hK' K')|((with_reducible refine WL.step fun K2 hK2=>?_);simp only [simprocAttr,implies_true,amz,tys,evC,Bool.not_true,Bool.not_false,bne_self_eq_false,ho,hf,h15,h17,h19,h7,h9,h10,h12,h4,y3,y5];(repeat' (first|with_reducible (first|(refine hK2 _ ?_;clear hK2 K2)|refine And.intro ?_ ?_|intro hb)|((first|(with_reducible apply callArmO)|(with_reducible apply callArm));case h=>exact CallV.plain (Ent.of Try.func46 (by kernel_rfl) rfl) (hA) (by simp [AV.okB]))))))))|refine T.skip ?_|refine T.exit ?_|refine T.condT rfl ?_|refine T.condF rfl ?_|refine T.cond rfl (fun hc=>?_) (fun hc=>?_)|refine T.ret ?_|simp only [ThenA,InBlock,reduceIte,Nat.reduceEqDiff]|((repeat ((fail_if_success (refine hK _ ?_));clear hK K));refine hK _ ?_;clear hK K))
                            all_goals (refine FinA.ret (.inr rfl) Try.results34 ?_;simp only [ares,aresL,ares1,simprocAttr,implies_true,amz,tys,];(try simp [immB,kndB,h1,ho,hf,h15,h17,h19,h7,h9,h10,h12,h4,y3,y5]))
                          | false =>
                            repeat' (first|refine T.seqK fun K hK=>?_|refine T.block ?_|(refine T.reg (by kernel_rfl) fun K' hK'=>?_;simp only [startSt,frOf,List.map_cons,List.map_nil];(repeat' (first|(with_reducible refine WL.fin ?_;refine hK' _ ?_;clear hK' K')|((with_reducible refine WL.step fun K2 hK2=>?_);simp only [simprocAttr,implies_true,amz,tys,evC,Bool.not_true,Bool.not_false,bne_self_eq_false,ho,hf,h15,h17,h19,h7,h9,h10,h12,h4,y3,y5];(repeat' (first|with_reducible (first|(refine hK2 _ ?_;clear hK2 K2)|refine And.intro ?_ ?_|intro hb)|((first|(with_reducible apply callArmO)|(with_reducible apply callArm));case h=>exact CallV.plain (Ent.of Try.func46 (by kernel_rfl) rfl) (hA) (by simp [AV.okB]))))))))|refine T.skip ?_|refine T.exit ?_|refine T.condT rfl ?_|refine T.condF rfl ?_|refine T.cond rfl (fun hc=>?_) (fun hc=>?_)|refine T.ret ?_|simp only [ThenA,InBlock,reduceIte,Nat.reduceEqDiff]|((repeat ((fail_if_success (refine hK _ ?_));clear hK K));refine hK _ ?_;clear hK K))
                            all_goals (refine FinA.ret (.inr rfl) Try.results34 ?_;simp only [ares,aresL,ares1,simprocAttr,implies_true,amz,tys,];(try simp [immB,kndB,h1,ho,hf,h15,h17,h19,h7,h9,h10,h12,h4,y3,y5]))
                      | false =>
                        cases h5:(x.kind == 5) with
                        | true =>
                          cases y3:(y.kind == 3) with
                          | true =>
                            repeat' (first|refine T.seqK fun K hK=>?_|refine T.block ?_|(refine T.reg (by kernel_rfl) fun K' hK'=>?_;simp only [startSt,frOf,List.map_cons,List.map_nil];(repeat' (first|(with_reducible refine WL.fin ?_;refine hK' _ ?_;clear hK' K')|((with_reducible refine WL.step fun K2 hK2=>?_);simp only [simprocAttr,implies_true,amz,tys,evC,Bool.not_true,Bool.not_false,bne_self_eq_false,ho,hf,h15,h17,h19,h7,h9,h10,h12,h4,h5,y3];(repeat' (first|with_reducible (first|(refine hK2 _ ?_;clear hK2 K2)|refine And.intro ?_ ?_|intro hb)|((first|(with_reducible apply callArmO)|(with_reducible apply callArm));case h=>exact CallV.plain (Ent.of Try.func46 (by kernel_rfl) rfl) (hA) (by simp [AV.okB]))))))))|refine T.skip ?_|refine T.exit ?_|refine T.condT rfl ?_|refine T.condF rfl ?_|refine T.cond rfl (fun hc=>?_) (fun hc=>?_)|refine T.ret ?_|simp only [ThenA,InBlock,reduceIte,Nat.reduceEqDiff]|((repeat ((fail_if_success (refine hK _ ?_));clear hK K));refine hK _ ?_;clear hK K))
                            all_goals (refine FinA.ret (.inr rfl) Try.results34 ?_;simp only [ares,aresL,ares1,simprocAttr,implies_true,amz,tys,];(try simp [immB,kndB,h1,ho,hf,h15,h17,h19,h7,h9,h10,h12,h4,h5,y3]))
                          | false =>
                            cases y5:(y.kind == 5) with
                            | true =>
                              repeat' (first|refine T.seqK fun K hK=>?_|refine T.block ?_|(refine T.reg (by kernel_rfl) fun K' hK'=>?_;simp only [startSt,frOf,List.map_cons,List.map_nil];(repeat' (first|(with_reducible refine WL.fin ?_;refine hK' _ ?_;clear hK' K')|((with_reducible refine WL.step fun K2 hK2=>?_);simp only [simprocAttr,implies_true,amz,tys,evC,Bool.not_true,Bool.not_false,bne_self_eq_false,ho,hf,h15,h17,h19,h7,h9,h10,h12,h4,h5,y3,y5];(repeat' (first|with_reducible (first|(refine hK2 _ ?_;clear hK2 K2)|refine And.intro ?_ ?_|intro hb)|((first|(with_reducible apply callArmO)|(with_reducible apply callArm));case h=>exact CallV.plain (Ent.of Try.func46 (by kernel_rfl) rfl) (hA) (by simp [AV.okB]))))))))|refine T.skip ?_|refine T.exit ?_|refine T.condT rfl ?_|refine T.condF rfl ?_|refine T.cond rfl (fun hc=>?_) (fun hc=>?_)|refine T.ret ?_|simp only [ThenA,InBlock,reduceIte,Nat.reduceEqDiff]|((repeat ((fail_if_success (refine hK _ ?_));clear hK K));refine hK _ ?_;clear hK K))
                              all_goals (refine FinA.ret (.inr rfl) Try.results34 ?_;simp only [ares,aresL,ares1,simprocAttr,implies_true,amz,tys,];(try simp [immB,kndB,h1,ho,hf,h15,h17,h19,h7,h9,h10,h12,h4,h5,y3,y5]))
                            | false =>
                              repeat' (first|refine T.seqK fun K hK=>?_|refine T.block ?_|(refine T.reg (by kernel_rfl) fun K' hK'=>?_;simp only [startSt,frOf,List.map_cons,List.map_nil];(repeat' (first|(with_reducible refine WL.fin ?_;refine hK' _ ?_;clear hK' K')|((with_reducible refine WL.step fun K2 hK2=>?_);simp only [simprocAttr,implies_true,amz,tys,evC,Bool.not_true,Bool.not_false,bne_self_eq_false,ho,hf,h15,h17,h19,h7,h9,h10,h12,h4,h5,y3,y5];(repeat' (first|with_reducible (first|(refine hK2 _ ?_;clear hK2 K2)|refine And.intro ?_ ?_|intro hb)|((first|(with_reducible apply callArmO)|(with_reducible apply callArm));case h=>exact CallV.plain (Ent.of Try.func46 (by kernel_rfl) rfl) (hA) (by simp [AV.okB]))))))))|refine T.skip ?_|refine T.exit ?_|refine T.condT rfl ?_|refine T.condF rfl ?_|refine T.cond rfl (fun hc=>?_) (fun hc=>?_)|refine T.ret ?_|simp only [ThenA,InBlock,reduceIte,Nat.reduceEqDiff]|((repeat ((fail_if_success (refine hK _ ?_));clear hK K));refine hK _ ?_;clear hK K))
                              all_goals (refine FinA.ret (.inr rfl) Try.results34 ?_;simp only [ares,aresL,ares1,simprocAttr,implies_true,amz,tys,];(try simp [immB,kndB,h1,ho,hf,h15,h17,h19,h7,h9,h10,h12,h4,h5,y3,y5]))
                        | false =>
                          repeat' (first|refine T.seqK fun K hK=>?_|refine T.block ?_|(refine T.reg (by kernel_rfl) fun K' hK'=>?_;simp only [startSt,frOf,List.map_cons,List.map_nil];(repeat' (first|(with_reducible refine WL.fin ?_;refine hK' _ ?_;clear hK' K')|((with_reducible refine WL.step fun K2 hK2=>?_);simp only [simprocAttr,implies_true,amz,tys,evC,Bool.not_true,Bool.not_false,bne_self_eq_false,ho,hf,h15,h17,h19,h7,h9,h10,h12,h4,h5];(repeat' (first|with_reducible (first|(refine hK2 _ ?_;clear hK2 K2)|refine And.intro ?_ ?_|intro hb) ))))))|refine T.skip ?_|refine T.exit ?_|refine T.condT rfl ?_|refine T.condF rfl ?_|refine T.cond rfl (fun hc=>?_) (fun hc=>?_)|refine T.ret ?_|simp only [ThenA,InBlock,reduceIte,Nat.reduceEqDiff]|((repeat ((fail_if_success (refine hK _ ?_));clear hK K));refine hK _ ?_;clear hK K))
                          all_goals (refine FinA.ret (.inr rfl) Try.results34 ?_;simp only [ares,aresL,ares1,simprocAttr,implies_true,amz,tys,];(try simp [immB,kndB,h1,ho,hf,h15,h17,h19,h7,h9,h10,h12,h4,h5]))
end Go.Proofs.Ytnckehomadnhoaa
namespace Go.Proofs.Ytnckehomadnhoaa
open Go.RowKit Go.Sort
set_option linter.unusedSimpArgs false
set_option linter.unusedVariables false
def matR (n:Nat) (f:Nat→Nat→Bool):List (List (List PV)):=(List.range n).map fun i=>rowR n (f i)
theorem matR_len (n:Nat) (f:Nat→Nat→Bool):(matR n f).length=n:=by simp [matR]
theorem matR_at {n i:Nat} (f:Nat→Nat→Bool) (h:i < n):(matR n f)[i]? = some (rowR n (f i)):=by
  unfold matR;rw [List.getElem?_map,List.getElem?_range h];rfl
theorem matR_set {n i j:Nat} (f:Nat→Nat→Bool) (b:Bool) (hi:i < n) (hj:j < n):(matR n f).set i ((rowR n (f i)).set j (bvC b))=matR n (updM f i j b):=by
  apply List.ext_getElem?
  intro k
  rw [List.getElem?_set]
  by_cases hk:k < n
  · rw [matR_at _ hk,matR_at _ hk]
    by_cases e:i=k
    · subst e
      rw [if_pos rfl,if_pos (by rw [matR_len];exact hi)]
      congr 1
      apply List.ext_getElem?
      intro q
      rw [List.getElem?_set]
      by_cases hq:q < n
      · rw [rowR_at _ hq,rowR_at _ hq]
        by_cases e2:j=q
        · subst e2;rw [if_pos rfl,if_pos (by rw [rowR_len];exact hj)];simp [updM]
        · rw [if_neg e2];simp only [updM,true_and];rw [if_neg (fun h=>e2 h.symm)]
      · have e2 : ¬ j=q:=by omega
        rw [if_neg e2,List.getElem?_eq_none (by rw [rowR_len];omega),List.getElem?_eq_none (by rw [rowR_len];omega)]
    · rw [if_neg e]
      congr 1
      unfold rowR
      refine List.map_congr_left fun q _=>?_
      simp only [updM]
      rw [if_neg (fun h=>e h.1.symm)]
  · have e2 : ¬ i=k:=by omega
    rw [if_neg e2,List.getElem?_eq_none (by rw [matR_len];omega),List.getElem?_eq_none (by rw [matR_len];omega)]
theorem matR_congr {n:Nat} {f g:Nat→Nat→Bool} (h : ∀ i j,i < n→j < n→f i j=g i j):matR n f=matR n g:=by
  unfold matR rowR
  refine List.map_congr_left fun i hi=>List.map_congr_left fun j hj=>?_
  rw [h i j (List.mem_range.1 hi) (List.mem_range.1 hj)]
theorem rowR_rep (n:Nat) (b:Bool):rowR n (fun _=>b)=List.replicate n (bvC b):=by
  simp [rowR,List.map_const']
theorem matR_rep (n:Nat) (b:Bool):matR n (fun _ _=>b)=List.replicate n (List.replicate n (bvC b)):=by
  simp [matR,rowR_rep,List.map_const']
def hpM (n:Nat) (f:Nat→Nat→Bool):Hp:=(0,.arow 33 (owns 10 n)) :: mat 4 1 10 (matR n f)
theorem hpM_ok {n:Nat} (f:Nat→Nat→Bool) (hn:n ≤ 1000000) (t:Nat) (o:AO) (h:(hpM n f).lookup t=some o):t < 1000010∧o.okB 1000010=true:=by
  unfold hpM at h
  by_cases e:t=0
  · subst e
    rw [lookup_cons_eq] at h;cases h
    exact ⟨by omega,owns_okB n 10 1000010 (by omega)⟩
  · rw [lookup_cons_ne e,mat_lk] at h
    split at h
    · obtain ⟨r,h1,rfl⟩:=Option.map_eq_some_iff.1 h
      have:=(List.getElem?_eq_some_iff.1 h1).1
      rw [matR_len] at this
      exact ⟨by omega,rfl⟩
    · cases h
theorem Weak.matD (n:Nat) (f:Nat→Nat→Bool) (q m N:Nat):Weak ⟨[(q,.own 0)],hpM n f,m,N⟩ ⟨[(q,.p (.seq 1 ((matR n f).map fun r => [PV.seq 1 r])))],[],m,N⟩:=by
  refine Weak.trans (s2:=⟨[(q,.own 0)],(0,.arow 33 (owns 10 (matR n f).length)) :: mat 4 1 10 (matR n f),m,N⟩) (by rw [matR_len];exact Weak.refl _) ?_
  refine (Weak.frzMat [(q,.own 0)] (fun t y=>by simp [AV.sub]) m N 33 4 10 (matR n f) (by decide)).trans ?_
  refine (Weak.frz _ 0).trans ?_
  simp only [ASt.frz,lookup_cons_eq,ASt.subst,List.map_cons,List.map_nil,AV.sub,if_true]
  exact Weak.refl _
theorem colB_end (l:List Ev) (j a:Nat):colB l j j a=false:=by
  unfold colB
  rw [List.any_eq_false]
  intro i hi
  have:=List.mem_range.1 hi
  simp;omega
theorem any_or {α:Type} (l:List α) (p q : α→Bool):(l.any fun x=>p x || q x)=(l.any p || l.any q):=by
  induction l with
  | nil=>rfl
  | cons x r ih=>simp only [List.any_cons,ih];cases p x <;> cases q x <;> simp
theorem any_one (j r:Nat) (c:Bool) (h:r < j):((List.range j).any fun i=>decide (i=r) && c)=c:=by
  cases c with
  | false=>simp
  | true=>rw [List.any_eq_true];exact ⟨r,List.mem_range.2 h,by simp⟩
theorem colB_step (l:List Ev) (j r a:Nat) (h:r < j):colB l j r a=(colB l j (r + 1) a || (immL l r j && (a == r || (decide (a < r) && hbB l r a)))):=by
  have e:=any_one j r (immL l r j && (a == r || (decide (a < r) && hbB l r a))) h
  unfold colB
  rw [← e,← any_or]
  congr 1
  funext i
  by_cases hi:i=r
  · subst hi;simp;intro h;omega
  · have:decide (r≤i)=decide (r + 1≤i):=by simp;omega
    rw [this];simp [hi]
def stM (l:List Ev) (j:Nat) (g:Nat→Bool):Nat→Nat→Bool:=fun a b=>if b < j then hbB l b a else if b=j then g a else false
def gK (l:List Ev) (j r k:Nat):Nat→Bool:=fun a=>colB l j (r + 1) a || (a == r) || (decide (a < k) && hbB l r a)
theorem st_init (l:List Ev) (n j r:Nat):matR n (updM (stM l j (colB l j (r + 1))) r j true)=matR n (stM l j (gK l j r 0)):=by
  congr 1
  funext a b
  simp only [updM,stM,gK]
  by_cases hb:b < j
  · rw [if_neg (by omega),if_pos hb,if_pos hb]
  · by_cases hj:b=j
    · subst hj
      by_cases ha:a=r
      · subst ha;simp
      · simp [ha]
    · rw [if_neg (by omega),if_neg hb,if_neg hb,if_neg hj,if_neg hj]
theorem st_yes {l:List Ev} {j r k:Nat} (n:Nat) (hv:hbB l r k=true):matR n (updM (stM l j (gK l j r k)) k j true)=matR n (stM l j (gK l j r (k + 1))):=by
  congr 1
  funext a b
  simp only [updM,stM,gK]
  by_cases hb:b < j
  · rw [if_neg (by omega),if_pos hb,if_pos hb]
  · by_cases hj:b=j
    · subst hj
      by_cases ha:a=k
      · subst ha;simp [hv]
      · rw [if_neg (fun h=>ha h.1),if_neg hb,if_pos rfl,if_neg hb,if_pos rfl,show decide (a < k + 1)=decide (a < k) by simp;omega]
    · rw [if_neg (by omega),if_neg hb,if_neg hb,if_neg hj,if_neg hj]
theorem st_no {l:List Ev} {j r k:Nat} (n:Nat) (hv:hbB l r k=false):matR n (stM l j (gK l j r k))=matR n (stM l j (gK l j r (k + 1))):=by
  congr 1
  funext a b
  simp only [stM,gK]
  by_cases ha:a=k
  · subst ha;simp [hv]
  · rw [show decide (a < k + 1)=decide (a < k) by simp;omega]
theorem st_end {l:List Ev} {j r:Nat} (n:Nat) (hr:r < j) (h:immL l r j=true):matR n (stM l j (gK l j r r))=matR n (stM l j (colB l j r)):=by
  have:gK l j r r=colB l j r:=by
    funext a
    rw [colB_step l j r a hr,gK,h,Bool.true_and,Bool.or_assoc]
  rw [this]
theorem st_skip {l:List Ev} {j r:Nat} (n:Nat) (hr:r < j) (h:immL l r j=false):matR n (stM l j (colB l j (r + 1)))=matR n (stM l j (colB l j r)):=by
  have:colB l j (r + 1)=colB l j r:=by
    funext a
    rw [colB_step l j r a hr,h];simp
  rw [this]
theorem st_next (l:List Ev) (n j:Nat):matR n (stM l j (colB l j 0))=matR n (stM l (j + 1) fun _=>false):=by
  congr 1
  funext a b
  simp only [stM]
  by_cases hb:b < j
  · rw [if_pos hb,if_pos (by omega)]
  · by_cases hj:b=j
    · subst hj;rw [if_neg hb,if_pos rfl,if_pos (by omega),hbB_eq]
    · rw [if_neg hb,if_neg hj,if_neg (by omega)];simp
theorem st_zero (l:List Ev) (n j:Nat):matR n (stM l j fun _=>false)=matR n (stM l j (colB l j j)):=by
  have:colB l j j=fun _=>false:=by funext a;exact colB_end l j a
  rw [this]
theorem st_fin (l:List Ev) (n:Nat):matR n (stM l n fun _=>false)=matR n fun a b=>hbB l b a:=by
  refine matR_congr fun i j hi hj=>?_
  simp only [stM]
  rw [if_pos hj]
theorem st_first (l:List Ev) (n:Nat):List.replicate n (rowR n fun _=>false)=matR n (stM l 0 fun _=>false):=by
  have:(stM l 0 fun _=>false)=fun _ _=>false:=by funext a b;simp [stM]
  rw [this,matR_rep,rowR_rep]
end Go.Proofs.Ytnckehomadnhoaa
namespace Go.Proofs.Ytnckehomadnhoaa
open Go.RowKit Go.Sort
set_option linter.unusedSimpArgs false
set_option linter.unusedVariables false
set_option maxHeartbeats 16000000 in
set_option maxRecDepth 100000 in
theorem relation_ok (l:List Ev) (hl:l.length ≤ 1000000):PureC Try.prog 19 [.p (.seq 9 (l.map evC))] (.p (.seq 1 ((matR l.length fun a b=>hbB l b a).map fun r => [.seq 1 r]))):=by
  obtain ⟨n,hn⟩ : ∃ n,n=l.length:=⟨_,rfl⟩
  have hml:(n:Int).toNat≤maxLen:=by unfold maxLen;simp;omega
  have hml' : n≤maxLen:=by unfold maxLen;omega
  have hmb : 24 * n ≤ 140737488355328:=by omega
  have hmb1 : 1 * n ≤ 140737488355328:=by omega
  rw [← hn] at hl ⊢
  refine PureC.of Try.func19 rfl 65 rfl (by decide) (by simp [AV.okB]) ?_
  repeat' (first|refine T.seqK fun K hK=>?_|refine T.block ?_|(refine T.reg (by kernel_rfl) fun K' hK'=>?_;simp only [startSt,frOf,List.map_cons,List.map_nil];(repeat' (first|(with_reducible refine WL.fin ?_;refine hK' _ ?_;clear hK' K')|((with_reducible refine WL.step fun K2 hK2=>?_);simp only [simprocAttr,implies_true,amz,tys,← hn,hml',hmb];(repeat' (first|with_reducible (first|(refine hK2 _ ?_;clear hK2 K2)|refine And.intro ?_ ?_|intro hb) ))))))|refine T.skip ?_|refine T.exit ?_|refine T.condT rfl ?_|refine T.condF rfl ?_|refine T.cond rfl (fun hc=>?_) (fun hc=>?_)|refine T.ret ?_|simp only [ThenA,InBlock,reduceIte,Nat.reduceEqDiff]|((repeat ((fail_if_success (refine hK _ ?_));clear hK K));refine hK _ ?_;clear hK K))
  rw [show List.replicate n [PV.val (.slice none 0 0)]=(List.replicate n (PV.val (.slice none 0 0))).map fun x => [x] by simp]
  refine T.weak (Weak.toA _ 0 33 _ rfl) ?_
  refine T.weak (Weak.upN _ 1000010 (by simp)) ?_
  simp only [setHp,List.map_cons,List.map_nil,if_true,List.map_replicate]
  have hR0:rowR n (fun _=>false)=List.replicate n [PV.val (.bool false)]:=rowR_rep n false
  refine T.loopK (fun i:Nat=>⟨[(0,.p (.seq 9 (l.map evC))),(2,.p (.val nilV)),(3,.own 0),(4,.int i)],(0,.arow 33 (arS n i)) :: mat 4 1 10 (List.replicate i (rowR n fun _=>false)),65,1000010⟩) (fun i=>i≤n) (fun i=>n - i) 0 (Nat.zero_le _) ?_ ?_
  · refine Weak.frm _ _ _ _ (fun t=>?_) (by simp only [wks,reduceIte,Nat.reduceEqDiff,implies_true,and_self,Int.natCast_zero]) (by simp only [wks,AV.okB,Nat.reduceLT,decide_true,List.all_cons,List.all_nil,Bool.and_self,Int.natCast_zero]) ?_
    · simp [arS,owns,mat]
    · exact fun t o h=>arow_ok (arS_ok (by omega)) (by simp) t o h
  intro i hi KL hKL
  by_cases hlt:i < n
  · have hd:decide ((i:Int) < (n:Int))=true:=by simpa using hlt
    have hst:=arS_step hlt hl
    have hal:=arS_len (n:=n) (i:=i) (by omega)
    have hz0:(i + 10=0)=False:=by simp
    have hne0:List.filter (fun p=>p.1 != 1000010 && p.1 != i + 10) (mat 4 1 10 (List.replicate i (rowR n fun _=>false)))=mat 4 1 10 (List.replicate i (rowR n fun _=>false)):=mat_ne2 _ _ _ _ _ _ (.inr (by simp;omega)) (.inr (by simp;omega))
    have hz1:(0 != i + 10)=true:=by simp
    have hz2:(1000010=i + 10)=False:=by simp;omega
    have hz3:(i + 10 < 1000011)=True:=by simp;omega
    repeat' (first|refine T.seqK fun K hK=>?_|refine T.block ?_|(refine T.reg (by kernel_rfl) fun K' hK'=>?_;simp only [startSt,frOf,List.map_cons,List.map_nil];(repeat' (first|(with_reducible refine WL.fin ?_;refine hK' _ ?_;clear hK' K')|((with_reducible refine WL.step fun K2 hK2=>?_);simp only [simprocAttr,implies_true,amz,tys,← hn,hd,hml',hmb,hmb1,hal,hlt,mat_set0U,mat_below];(repeat' (first|with_reducible (first|(refine hK2 _ ?_;clear hK2 K2)|refine And.intro ?_ ?_|intro hb) ))))))|refine T.skip ?_|refine T.exit ?_|refine T.condT rfl ?_|refine T.condF rfl ?_|refine T.cond rfl (fun hc=>?_) (fun hc=>?_)|refine T.ret ?_|simp only [ThenA,InBlock,reduceIte,Nat.reduceEqDiff]|((repeat ((fail_if_success (refine hK _ ?_));clear hK K));refine hK _ ?_;clear hK K))
    have hrep:mat 4 1 10 (List.replicate (i + 1) (rowR n fun _=>false))=mat 4 1 10 (List.replicate i (rowR n fun _=>false) ++ [List.replicate n [PV.val (.bool false)]]):=by rw [List.replicate_succ',hR0]
    refine hKL _ (i + 1) ((Weak.ren _ 1000010 (i + 10)).trans ?_) (by omega) (by omega)
    rw [hrep]
    simp only [ASt.ren,AV.ren_own,AV.ren_ptr,AV.ren_rptr,AV.ren_pre,AV.ren_p,AV.ren_elt,AV.ren_junk,AV.ren_cap0,AV.ren_fn,AV.ren_agg,AV.ren_tup,AO.ren_box,AO.ren_row,AO.ren_map,AO.ren_raw,List.map_cons,List.map_nil,List.filter_cons,List.filter_nil,lk_cons,lk_nil,reduceIte,Nat.reduceEqDiff,Nat.reduceLT,Nat.reduceBneDiff,bne_self_eq_false,Bool.and_true,Bool.and_false,Bool.true_and,Bool.false_and,Bool.and_self,Bool.false_eq_true,ne_eq,not_false_eq_true,not_true_eq_false,and_self,and_true,true_and,and_false,AO.ren_arow,hz0,hne0,hz1,hz2,hz3,mat_ren,hst]
    refine Weak.frm _ _ _ _ (fun t=>?_) (by simp only [wks,reduceIte,Nat.reduceEqDiff,implies_true,and_self,wrap_succ (show i < 1152921504606846976 by omega)]) (by simp only [wks,AV.okB,Nat.reduceLT,decide_true,List.all_cons,List.all_nil,Bool.and_self,wrap_succ (show i < 1152921504606846976 by omega)]) ?_
    · rw [mat_push,List.length_replicate]
    · exact fun t o h=>arow_ok (arS_ok (by omega)) (by simp;omega) t o h
  · have hd:decide ((i:Int) < (n:Int))=false:=by simpa using hlt
    have hin:n=i:=by omega
    subst hin
    repeat' (first|refine T.seqK fun K hK=>?_|refine T.block ?_|(refine T.reg (by kernel_rfl) fun K' hK'=>?_;simp only [startSt,frOf,List.map_cons,List.map_nil];(repeat' (first|(with_reducible refine WL.fin ?_;refine hK' _ ?_;clear hK' K')|((with_reducible refine WL.step fun K2 hK2=>?_);simp only [simprocAttr,implies_true,amz,tys,← hn,hd];(repeat' (first|with_reducible (first|(refine hK2 _ ?_;clear hK2 K2)|refine And.intro ?_ ?_|intro hb) ))))))|refine T.skip ?_|refine T.exit ?_|refine T.condT rfl ?_|refine T.condF rfl ?_|refine T.cond rfl (fun hc=>?_) (fun hc=>?_)|refine T.ret ?_|simp only [ThenA,InBlock,reduceIte,Nat.reduceEqDiff]|((repeat ((fail_if_success (refine hK _ ?_));clear hK K));refine hK _ ?_;clear hK K))
    refine T.loopK (fun j:Nat=>⟨[(0,.p (.seq 9 (l.map evC))),(2,.p (.val nilV)),(3,.own 0),(5,.int j)],hpM n (stM l j fun _=>false),65,1000010⟩) (fun j=>j≤n) (fun j=>n - j) 0 (Nat.zero_le _) ?_ ?_
    · refine Weak.frm _ _ _ _ (fun t=>?_) (by simp only [wks,reduceIte,Nat.reduceEqDiff,implies_true,and_self,Int.natCast_zero]) (by simp only [wks,AV.okB,Nat.reduceLT,decide_true,List.all_cons,List.all_nil,Bool.and_self,Int.natCast_zero]) ?_
      · rw [hpM,← st_first,show arS n n=owns 10 n by simp [arS]]
      · exact fun t o h=>hpM_ok _ hl t o h
    intro j hj KL2 hKL2
    by_cases hjn:j < n
    · have hdj:decide ((j:Int) < (n:Int))=true:=by simpa using hjn
      have hw1:IntKind.i64.wrap ((j:Int) - 1)=(j:Int) - 1:=by rw [IntKind.wrap_i64];omega
      obtain ⟨y,hy⟩:=at_lt (show j < l.length by omega)
      repeat' (first|refine T.seqK fun K hK=>?_|refine T.block ?_|(refine T.reg (by kernel_rfl) fun K' hK'=>?_;simp only [startSt,frOf,List.map_cons,List.map_nil];(repeat' (first|(with_reducible refine WL.fin ?_;refine hK' _ ?_;clear hK' K')|((with_reducible refine WL.step fun K2 hK2=>?_);simp only [simprocAttr,implies_true,amz,tys,← hn,hdj,hw1];(repeat' (first|with_reducible (first|(refine hK2 _ ?_;clear hK2 K2)|refine And.intro ?_ ?_|intro hb) ))))))|refine T.skip ?_|refine T.exit ?_|refine T.condT rfl ?_|refine T.condF rfl ?_|refine T.cond rfl (fun hc=>?_) (fun hc=>?_)|refine T.ret ?_|simp only [ThenA,InBlock,reduceIte,Nat.reduceEqDiff]|((repeat ((fail_if_success (refine hK _ ?_));clear hK K));refine hK _ ?_;clear hK K))
      refine T.loopK (fun r:Nat=>⟨[(0,.p (.seq 9 (l.map evC))),(2,.p (.val nilV)),(3,.own 0),(5,.int j),(6,.int ((r:Int) - 1))],hpM n (stM l j (colB l j r)),65,1000010⟩) (fun r=>r≤j) (fun r=>r) j (Nat.le_refl _) ?_ ?_
      · refine Weak.frm _ _ _ _ (fun t=>?_) (by simp only [wks,reduceIte,Nat.reduceEqDiff,implies_true,and_self,]) (by simp only [wks,AV.okB,Nat.reduceLT,decide_true,List.all_cons,List.all_nil,Bool.and_self,]) ?_
        · rw [hpM,hpM,st_zero]
        · exact fun t o h=>hpM_ok _ hl t o h
      intro r hr KL3 hKL3
      rcases r with _|r
      · have hd3:decide ((0:Int)≤((0:Nat):Int) - 1)=false:=by decide
        repeat' (first|refine T.seqK fun K hK=>?_|refine T.block ?_|(refine T.reg (by kernel_rfl) fun K' hK'=>?_;simp only [startSt,frOf,List.map_cons,List.map_nil];(repeat' (first|(with_reducible refine WL.fin ?_;refine hK' _ ?_;clear hK' K')|((with_reducible refine WL.step fun K2 hK2=>?_);simp only [simprocAttr,implies_true,amz,tys,← hn,hd3];(repeat' (first|with_reducible (first|(refine hK2 _ ?_;clear hK2 K2)|refine And.intro ?_ ?_|intro hb) ))))))|refine T.skip ?_|refine T.exit ?_|refine T.condT rfl ?_|refine T.condF rfl ?_|refine T.cond rfl (fun hc=>?_) (fun hc=>?_)|refine T.ret ?_|simp only [ThenA,InBlock,reduceIte,Nat.reduceEqDiff]|((repeat ((fail_if_success (refine hK _ ?_));clear hK K));refine hK _ ?_;clear hK K))
        refine hKL2 _ (j + 1) ?_ (by omega) (by omega)
        refine Weak.frm _ _ _ _ (fun t=>?_) (by simp only [wks,reduceIte,Nat.reduceEqDiff,implies_true,and_self,wrap_succ (show j < 1152921504606846976 by omega)]) (by simp only [wks,AV.okB,Nat.reduceLT,decide_true,List.all_cons,List.all_nil,Bool.and_self,wrap_succ (show j < 1152921504606846976 by omega)]) ?_
        · rw [hpM,hpM,st_next]
        · exact fun t o h=>hpM_ok _ hl t o h
      · have hr1:(((r + 1:Nat):Int) - 1)=(r:Int):=by omega
        have hwr:IntKind.i64.wrap ((r:Int) - 1)=(r:Int) - 1:=by rw [IntKind.wrap_i64];omega
        rw [hr1]
        obtain ⟨x,hx⟩:=at_lt (show r < l.length by omega)
        have himm:=imm_ok l r j x y hx hy (by omega) (by omega)
        have hiL:=immL_eq hx hy
        cases hb:immB l x y r j with
        | false =>
          rw [hb] at himm hiL
          repeat' (first|refine T.seqK fun K hK=>?_|refine T.block ?_|(refine T.reg (by kernel_rfl) fun K' hK'=>?_;simp only [startSt,frOf,List.map_cons,List.map_nil];(repeat' (first|(with_reducible refine WL.fin ?_;refine hK' _ ?_;clear hK' K')|((with_reducible refine WL.step fun K2 hK2=>?_);simp only [simprocAttr,implies_true,amz,tys,← hn,hwr,decide_true];(repeat' (first|with_reducible (first|(refine hK2 _ ?_;clear hK2 K2)|refine And.intro ?_ ?_|intro hb)|((first|(with_reducible apply callArmO)|(with_reducible apply callArm));case h=>exact CallV.plain (Ent.of Try.func34 (by kernel_rfl) rfl) (himm) (by simp [AV.okB]))))))))|refine T.skip ?_|refine T.exit ?_|refine T.condT rfl ?_|refine T.condF rfl ?_|refine T.cond rfl (fun hc=>?_) (fun hc=>?_)|refine T.ret ?_|simp only [ThenA,InBlock,reduceIte,Nat.reduceEqDiff]|((repeat ((fail_if_success (refine hK _ ?_));clear hK K));refine hK _ ?_;clear hK K))
          refine hKL3 _ r ?_ (by omega) (by omega)
          refine Weak.frm _ _ _ _ (fun t=>?_) (by simp only [wks,reduceIte,Nat.reduceEqDiff,implies_true,and_self,]) (by simp only [wks,AV.okB,Nat.reduceLT,decide_true,List.all_cons,List.all_nil,Bool.and_self,]) ?_
          · rw [hpM,hpM,st_skip n (by omega) hiL]
          · exact fun t o h=>hpM_ok _ hl t o h
        | true =>
          rw [hb] at himm hiL
          have hrn:r < n:=by omega
          obtain ⟨f,hf⟩ : ∃ f,f=stM l j (colB l j (r + 1)):=⟨_,rfl⟩
          rw [← hf]
          simp only [hpM]
          have o1:=owns_get n 10 r hrn
          have o2:=owns_len n 10
          have m1:=matR_at f hrn
          have m2:=rowR_at (f r) hjn
          have m3:=rowR_len n (f r)
          have m4:List.set (matR n f) r (List.set (rowR n (f r)) j [PV.val (.bool true)])=matR n (updM f r j true):=matR_set f true hrn hjn
          have hz0:(r + 10=0)=False:=by simp
          repeat' (first|refine T.seqK fun K hK=>?_|refine T.block ?_|(refine T.reg (by kernel_rfl) fun K' hK'=>?_;simp only [startSt,frOf,List.map_cons,List.map_nil];(repeat' (first|(with_reducible refine WL.fin ?_;refine hK' _ ?_;clear hK' K')|((with_reducible refine WL.step fun K2 hK2=>?_);simp only [simprocAttr,implies_true,amz,tys,← hn,hwr,decide_true,o1,o2,hrn,hjn,hz0,mat_at,m1,bvC,m2,m3,mat_setU,m4];(repeat' (first|with_reducible (first|(refine hK2 _ ?_;clear hK2 K2)|refine And.intro ?_ ?_|intro hb)|((first|(with_reducible apply callArmO)|(with_reducible apply callArm));case h=>exact CallV.plain (Ent.of Try.func34 (by kernel_rfl) rfl) (himm) (by simp [AV.okB]))))))))|refine T.skip ?_|refine T.exit ?_|refine T.condT rfl ?_|refine T.condF rfl ?_|refine T.cond rfl (fun hc=>?_) (fun hc=>?_)|refine T.ret ?_|simp only [ThenA,InBlock,reduceIte,Nat.reduceEqDiff]|((repeat ((fail_if_success (refine hK _ ?_));clear hK K));refine hK _ ?_;clear hK K))
          refine T.loopK (fun k:Nat=>⟨[(0,.p (.seq 9 (l.map evC))),(2,.p (.val nilV)),(3,.own 0),(5,.int j),(6,.int r),(7,.int k)],hpM n (stM l j (gK l j r k)),65,1000010⟩) (fun k=>k≤r) (fun k=>r - k) 0 (Nat.zero_le _) ?_ ?_
          · refine Weak.frm _ _ _ _ (fun t=>?_) (by simp only [wks,reduceIte,Nat.reduceEqDiff,implies_true,and_self,Int.natCast_zero]) (by simp only [wks,AV.okB,Nat.reduceLT,decide_true,List.all_cons,List.all_nil,Bool.and_self,Int.natCast_zero]) ?_
            · rw [hpM,hf,st_init]
            · exact fun t o h=>hpM_ok _ hl t o h
          intro k hk KL4 hKL4
          by_cases hkr:k < r
          · have hdk:decide ((k:Int) < (r:Int))=true:=by simpa using hkr
            have hkn:k < n:=by omega
            have hval:stM l j (gK l j r k) k r=hbB l r k:=by simp only [stM];rw [if_pos (by omega)]
            cases hv:hbB l r k with
            | false =>
              obtain ⟨g,hg⟩ : ∃ g,g=stM l j (gK l j r k):=⟨_,rfl⟩
              rw [← hg,hv] at hval
              rw [← hg]
              simp only [hpM]
              have o1:=owns_get n 10 k hkn
              have m1:=matR_at g hkn
              have m2:=rowR_at (g k) hrn
              have m3:=rowR_len n (g k)
              have hz0:(k + 10=0)=False:=by simp
              repeat' (first|refine T.seqK fun K hK=>?_|refine T.block ?_|(refine T.reg (by kernel_rfl) fun K' hK'=>?_;simp only [startSt,frOf,List.map_cons,List.map_nil];(repeat' (first|(with_reducible refine WL.fin ?_;refine hK' _ ?_;clear hK' K')|((with_reducible refine WL.step fun K2 hK2=>?_);simp only [simprocAttr,implies_true,amz,tys,← hn,hdk,o1,o2,hkn,hrn,hjn,hz0,mat_at,m1,bvC,m2,m3,hval];(repeat' (first|with_reducible (first|(refine hK2 _ ?_;clear hK2 K2)|refine And.intro ?_ ?_|intro hb) ))))))|refine T.skip ?_|refine T.exit ?_|refine T.condT rfl ?_|refine T.condF rfl ?_|refine T.cond rfl (fun hc=>?_) (fun hc=>?_)|refine T.ret ?_|simp only [ThenA,InBlock,reduceIte,Nat.reduceEqDiff]|((repeat ((fail_if_success (refine hK _ ?_));clear hK K));refine hK _ ?_;clear hK K))
              refine hKL4 _ (k + 1) ?_ (by omega) (by omega)
              refine Weak.frm _ _ _ _ (fun t=>?_) (by simp only [wks,reduceIte,Nat.reduceEqDiff,implies_true,and_self,wrap_succ (show k < 1152921504606846976 by omega)]) (by simp only [wks,AV.okB,Nat.reduceLT,decide_true,List.all_cons,List.all_nil,Bool.and_self,wrap_succ (show k < 1152921504606846976 by omega)]) ?_
              · rw [hpM,hg,st_no n hv]
              · exact fun t o h=>hpM_ok _ hl t o h
            | true =>
              obtain ⟨g,hg⟩ : ∃ g,g=stM l j (gK l j r k):=⟨_,rfl⟩
              rw [← hg,hv] at hval
              rw [← hg]
              simp only [hpM]
              have o1:=owns_get n 10 k hkn
              have m1:=matR_at g hkn
              have m2:=rowR_at (g k) hrn
              have m5:=rowR_at (g k) hjn
              have m3:=rowR_len n (g k)
              have m4:List.set (matR n g) k (List.set (rowR n (g k)) j [PV.val (.bool true)])=matR n (updM g k j true):=matR_set g true hkn hjn
              have hz0:(k + 10=0)=False:=by simp
              repeat' (first|refine T.seqK fun K hK=>?_|refine T.block ?_|(refine T.reg (by kernel_rfl) fun K' hK'=>?_;simp only [startSt,frOf,List.map_cons,List.map_nil];(repeat' (first|(with_reducible refine WL.fin ?_;refine hK' _ ?_;clear hK' K')|((with_reducible refine WL.step fun K2 hK2=>?_);simp only [simprocAttr,implies_true,amz,tys,← hn,hdk,o1,o2,hkn,hrn,hjn,hz0,mat_at,m1,bvC,m2,m3,m5,hval,mat_setU,m4];(repeat' (first|with_reducible (first|(refine hK2 _ ?_;clear hK2 K2)|refine And.intro ?_ ?_|intro hb) ))))))|refine T.skip ?_|refine T.exit ?_|refine T.condT rfl ?_|refine T.condF rfl ?_|refine T.cond rfl (fun hc=>?_) (fun hc=>?_)|refine T.ret ?_|simp only [ThenA,InBlock,reduceIte,Nat.reduceEqDiff]|((repeat ((fail_if_success (refine hK _ ?_));clear hK K));refine hK _ ?_;clear hK K))
              refine hKL4 _ (k + 1) ?_ (by omega) (by omega)
              refine Weak.frm _ _ _ _ (fun t=>?_) (by simp only [wks,reduceIte,Nat.reduceEqDiff,implies_true,and_self,wrap_succ (show k < 1152921504606846976 by omega)]) (by simp only [wks,AV.okB,Nat.reduceLT,decide_true,List.all_cons,List.all_nil,Bool.and_self,wrap_succ (show k < 1152921504606846976 by omega)]) ?_
              · rw [hpM,hg,st_yes n hv]
              · exact fun t o h=>hpM_ok _ hl t o h
          · have hdk:decide ((k:Int) < (r:Int))=false:=by simpa using hkr
            have hkr' : r=k:=by omega
            subst hkr'
            repeat' (first|refine T.seqK fun K hK=>?_|refine T.block ?_|(refine T.reg (by kernel_rfl) fun K' hK'=>?_;simp only [startSt,frOf,List.map_cons,List.map_nil];(repeat' (first|(with_reducible refine WL.fin ?_;refine hK' _ ?_;clear hK' K')|((with_reducible refine WL.step fun K2 hK2=>?_);simp only [simprocAttr,implies_true,amz,tys,← hn,hdk,hwr];(repeat' (first|with_reducible (first|(refine hK2 _ ?_;clear hK2 K2)|refine And.intro ?_ ?_|intro hb) ))))))|refine T.skip ?_|refine T.exit ?_|refine T.condT rfl ?_|refine T.condF rfl ?_|refine T.cond rfl (fun hc=>?_) (fun hc=>?_)|refine T.ret ?_|simp only [ThenA,InBlock,reduceIte,Nat.reduceEqDiff]|((repeat ((fail_if_success (refine hK _ ?_));clear hK K));refine hK _ ?_;clear hK K))
            refine hKL3 _ r ?_ (by omega) (by omega)
            refine Weak.frm _ _ _ _ (fun t=>?_) (by simp only [wks,reduceIte,Nat.reduceEqDiff,implies_true,and_self,]) (by simp only [wks,AV.okB,Nat.reduceLT,decide_true,List.all_cons,List.all_nil,Bool.and_self,]) ?_
            · rw [hpM,hpM,st_end n (by omega) hiL]
            · exact fun t o h=>hpM_ok _ hl t o h
    · have hdj:decide ((j:Int) < (n:Int))=false:=by simpa using hjn
      have hin:n=j:=by omega
      subst hin
      repeat' (first|refine T.seqK fun K hK=>?_|refine T.block ?_|(refine T.reg (by kernel_rfl) fun K' hK'=>?_;simp only [startSt,frOf,List.map_cons,List.map_nil];(repeat' (first|(with_reducible refine WL.fin ?_;refine hK' _ ?_;clear hK' K')|((with_reducible refine WL.step fun K2 hK2=>?_);simp only [simprocAttr,implies_true,amz,tys,← hn,hdj];(repeat' (first|with_reducible (first|(refine hK2 _ ?_;clear hK2 K2)|refine And.intro ?_ ?_|intro hb) ))))))|refine T.skip ?_|refine T.exit ?_|refine T.condT rfl ?_|refine T.condF rfl ?_|refine T.cond rfl (fun hc=>?_) (fun hc=>?_)|refine T.ret ?_|simp only [ThenA,InBlock,reduceIte,Nat.reduceEqDiff]|((repeat ((fail_if_success (refine hK _ ?_));clear hK K));refine hK _ ?_;clear hK K))
      refine FinA.retW (.inr rfl) Try.results19 (Weak.trans (s2:=⟨[(2,.own 0)],hpM n fun a b=>hbB l b a,65,1000010⟩) ?_ (Weak.matD _ _ _ _ _)) ?_
      · refine Weak.frm _ _ _ _ (fun t=>?_) (by simp only [wks,reduceIte,Nat.reduceEqDiff,implies_true,and_self,]) (by simp only [wks,AV.okB,Nat.reduceLT,decide_true,List.all_cons,List.all_nil,Bool.and_self,]) ?_
        · rw [hpM,hpM,st_fin]
        · exact fun t o h=>hpM_ok _ hl t o h
      · simp only [ares,aresL,ares1,simprocAttr,implies_true,amz,tys]
end Go.Proofs.Ytnckehomadnhoaa
namespace Go.Proofs.Ytnckehomadnhoaa
open Go.RowKit Go.Sort Go.Maps
set_option linter.unusedSimpArgs false
set_option linter.unusedVariables false
set_option maxHeartbeats 4000000 in
set_option maxRecDepth 100000 in
theorem conflictR_ok (a b:Ev):PureC Try.prog 39 [evA a,evA b] (.bool (conflictB a b)):=by
  simp only [evA,evC,List.map_cons,List.map_nil]
  refine PureC.of Try.func39 rfl 44 rfl (by decide) (by simp [AV.okB]) ?_
  repeat' (first|refine T.seqK fun K hK=>?_|refine T.block ?_|(refine T.reg (by kernel_rfl) fun K' hK'=>?_;simp only [startSt,frOf,List.map_cons,List.map_nil];(repeat' (first|(with_reducible refine WL.fin ?_;refine hK' _ ?_;clear hK' K')|((with_reducible refine WL.step fun K2 hK2=>?_);simp only [simprocAttr,implies_true,amz,tys];(repeat' (first|with_reducible (first|(refine hK2 _ ?_;clear hK2 K2)|refine And.intro ?_ ?_|intro hb)|((first|(with_reducible apply callArmO)|(with_reducible apply callArm));case h=>exact CallV.plain (Ent.of Try.func50 (by kernel_rfl) rfl) (memoryR_ok _) (by simp [AV.okB]))))))))|refine T.skip ?_|refine T.exit ?_|refine T.condT rfl ?_|refine T.condF rfl ?_|refine T.cond rfl (fun hc=>?_) (fun hc=>?_)|refine T.ret ?_|simp only [ThenA,InBlock,reduceIte,Nat.reduceEqDiff]|((repeat ((fail_if_success (refine hK _ ?_));clear hK K));refine hK _ ?_;clear hK K))
  all_goals (refine FinA.ret (.inr rfl) Try.results39 ?_;simp only [ares,aresL,ares1,simprocAttr,implies_true,amz,tys,];first|(simp [conflictB, *];done)|(simp_all [conflictB];done)|(simp_all [conflictB];omega))
end Go.Proofs.Ytnckehomadnhoaa
namespace Go.Proofs.Ytnckehomadnhoaa
open Go.RowKit Go.Sort Go.Maps
set_option linter.unusedSimpArgs false
set_option linter.unusedVariables false
set_option maxHeartbeats 16000000 in
set_option maxRecDepth 100000 in
theorem racesR_ok (l:List Ev) (hl:l.length ≤ 100000):PureC Try.prog 25 [.p (.seq 9 (l.map evC))] (.p (.seq 2 (rowQ (racesR l)))):=by
  have hv:=validT_ok l (by omega)
  cases h5:(checkB l).2 with
  | false =>
    rw [h5] at hv
    have hr:racesR l = []:=by simp [racesR,h5]
    refine PureC.of Try.func25 rfl 49 rfl (by decide) (by simp [AV.okB]) ?_
    repeat' (first|refine T.seqK fun K hK=>?_|refine T.block ?_|(refine T.reg (by kernel_rfl) fun K' hK'=>?_;simp only [startSt,frOf,List.map_cons,List.map_nil];(repeat' (first|(with_reducible refine WL.fin ?_;refine hK' _ ?_;clear hK' K')|((with_reducible refine WL.step fun K2 hK2=>?_);simp only [simprocAttr,implies_true,amz,abin,tys];(repeat' (first|with_reducible (first|(refine hK2 _ ?_;clear hK2 K2)|refine And.intro ?_ ?_|intro hb)|((first|(with_reducible apply callArmO)|(with_reducible apply callArm));case h=>exact CallV.plain (Ent.of Try.func18 (by kernel_rfl) rfl) (hv) (by simp [AV.okB]))))))))|refine T.skip ?_|refine T.exit ?_|refine T.condT rfl ?_|refine T.condF rfl ?_|refine T.cond rfl (fun hc=>?_) (fun hc=>?_)|refine T.ret ?_|simp only [ThenA,InBlock,reduceIte,Nat.reduceEqDiff]|((repeat ((fail_if_success (refine hK _ ?_));clear hK K));refine hK _ ?_;clear hK K))
    refine FinA.retW (.inr rfl) Try.results25 (s':=⟨[(2,.p (.seq 2 []))],[],49,0⟩) (by refine Weak.of' rfl ?_;simp only [wks,reduceIte,Nat.reduceEqDiff,ASt.okB,AV.okB,Nat.reduceLT,implies_true,]) ?_
    rw [hr];simp only [ares,aresL,ares1,nilQ,simprocAttr,implies_true,amz,abin,tys]
  | true =>
    rw [h5] at hv
    have hc:PureC Try.prog 19 [.p (.seq 9 (l.map evC))] (.p (.seq 1 ((matR l.length (hbM l)).map fun r => [.seq 1 r]))):=relation_ok l (by omega)
    have hr:racesR l=prU (racR l) (fun j=>j) l.length:=by simp [racesR,h5]
    rw [hr]
    obtain ⟨n,hn⟩ : ∃ n,n=l.length:=⟨_,rfl⟩
    rw [← hn] at hc ⊢
    refine PureC.of Try.func25 rfl 49 rfl (by decide) (by simp [AV.okB]) ?_
    repeat' (first|refine T.seqK fun K hK=>?_|refine T.block ?_|(refine T.reg (by kernel_rfl) fun K' hK'=>?_;simp only [startSt,frOf,List.map_cons,List.map_nil];(repeat' (first|(with_reducible refine WL.fin ?_;refine hK' _ ?_;clear hK' K')|((with_reducible refine WL.step fun K2 hK2=>?_);simp only [simprocAttr,implies_true,amz,abin,tys,← hn];(repeat' (first|with_reducible (first|(refine hK2 _ ?_;clear hK2 K2)|refine And.intro ?_ ?_|intro hb)|((first|(with_reducible apply callArmO)|(with_reducible apply callArm));case h=>exact CallV.plain (Ent.of Try.func18 (by kernel_rfl) rfl) (hv) (by simp [AV.okB]))|((first|(with_reducible apply callArmO)|(with_reducible apply callArm));case h=>exact CallV.plain (Ent.of Try.func19 (by kernel_rfl) rfl) (hc) (by simp [AV.okB]))))))))|refine T.skip ?_|refine T.exit ?_|refine T.condT rfl ?_|refine T.condF rfl ?_|refine T.cond rfl (fun hc=>?_) (fun hc=>?_)|refine T.ret ?_|simp only [ThenA,InBlock,reduceIte,Nat.reduceEqDiff]|((repeat ((fail_if_success (refine hK _ ?_));clear hK K));refine hK _ ?_;clear hK K))
    refine T.weak (Weak.newrow _ 4 46 2 (show 4 < 49 by decide) rfl) ?_;simp only [ASt.add,put_some,Nat.reduceAdd]
    refine T.loopK (fun j:Nat=>⟨[(0,.p (.seq 9 (l.map evC))),(3,.p (.seq 1 ((matR n (hbM l)).map fun r => [PV.seq 1 r]))),(4,.own 0),(5,.int j)],[(0,.row 46 2 (rowQ (prU (racR l) (fun j=>j) j)))],49,1⟩) (fun j=>j≤n) (fun j=>n - j) 0 (Nat.zero_le _) (by refine Weak.of' rfl ?_;simp only [wks,reduceIte,Nat.reduceEqDiff,ASt.okB,AV.okB,Nat.reduceLT,implies_true,Int.natCast_zero,prU,nilQ]) ?_
    intro j hj KL hKL
    by_cases hjn:j < n
    · have hd:decide ((j:Int) < (n:Int))=true:=by simpa using hjn
      obtain ⟨y,hy⟩:=at_lt (show j < l.length by omega)
      repeat' (first|refine T.seqK fun K hK=>?_|refine T.block ?_|(refine T.reg (by kernel_rfl) fun K' hK'=>?_;simp only [startSt,frOf,List.map_cons,List.map_nil];(repeat' (first|(with_reducible refine WL.fin ?_;refine hK' _ ?_;clear hK' K')|((with_reducible refine WL.step fun K2 hK2=>?_);simp only [simprocAttr,implies_true,amz,abin,tys,hd,← hn];(repeat' (first|with_reducible (first|(refine hK2 _ ?_;clear hK2 K2)|refine And.intro ?_ ?_|intro hb) ))))))|refine T.skip ?_|refine T.exit ?_|refine T.condT rfl ?_|refine T.condF rfl ?_|refine T.cond rfl (fun hc=>?_) (fun hc=>?_)|refine T.ret ?_|simp only [ThenA,InBlock,reduceIte,Nat.reduceEqDiff]|((repeat ((fail_if_success (refine hK _ ?_));clear hK K));refine hK _ ?_;clear hK K))
      refine T.loopK (fun k:Nat=>⟨[(0,.p (.seq 9 (l.map evC))),(3,.p (.seq 1 ((matR n (hbM l)).map fun r => [PV.seq 1 r]))),(4,.own 0),(5,.int j),(6,.int k)],[(0,.row 46 2 (rowQ (prU (racR l) (fun j=>j) j ++ prJ (racR l) j k)))],49,1⟩) (fun k=>k≤j) (fun k=>j - k) 0 (Nat.zero_le _) (by refine Weak.of' rfl ?_;simp only [wks,reduceIte,Nat.reduceEqDiff,ASt.okB,AV.okB,Nat.reduceLT,implies_true,Int.natCast_zero,prJ_zero,List.append_nil]) ?_
      intro k hk KL2 hKL2
      by_cases hkj:k < j
      · have hd2:decide ((k:Int) < (j:Int))=true:=by simpa using hkj
        obtain ⟨x,hx⟩:=at_lt (show k < l.length by omega)
        have hcf:=conflictR_ok x y
        rw [← confL_eq hx hy] at hcf
        simp only [evA,evC,List.map_cons,List.map_nil] at hcf
        have m1:=matR_at (hbM l) (show k < n by omega)
        have m2:=rowR_at (hbM l k) hjn
        obtain ⟨r,hr2⟩ : ∃ r,r=prU (racR l) (fun j=>j) j ++ prJ (racR l) j k:=⟨_,rfl⟩
        have hrl:r.length ≤ 100000 * 100000 + 100000:=by
          rw [hr2,List.length_append]
          have q1:=prU_len (racR l) (fun j=>j) n (fun _=>Nat.le_succ _) j (by omega)
          have q2:=prJ_len (racR l) j k
          have q3:j * n ≤ 100000 * 100000:=Nat.mul_le_mul (by omega) (by omega)
          omega
        have hm0 : 1≤maxLen:=by unfold maxLen;omega
        have hm1:r.length + 1≤maxLen:=by unfold maxLen;omega
        have hm2:(r.length + 1) * 16 ≤ 140737488355328:=by omega
        have hnext:prU (racR l) (fun j=>j) j ++ prJ (racR l) j (k + 1)=r ++ if racR l k j then [(k,j)] else []:=by rw [prJ_succ,← List.append_assoc,hr2]
        have hsn:=rowQ_snoc r (k,j)
        rw [← hr2]
        cases hcl:confL l k j with
        | false =>
          rw [hcl] at hcf
          have hp:racR l k j=false:=by simp [racR,hcl]
          repeat' (first|refine T.seqK fun K hK=>?_|refine T.block ?_|(refine T.reg (by kernel_rfl) fun K' hK'=>?_;simp only [startSt,frOf,List.map_cons,List.map_nil];(repeat' (first|(with_reducible refine WL.fin ?_;refine hK' _ ?_;clear hK' K')|((with_reducible refine WL.step fun K2 hK2=>?_);simp only [simprocAttr,implies_true,amz,abin,tys,hd2];(repeat' (first|with_reducible (first|(refine hK2 _ ?_;clear hK2 K2)|refine And.intro ?_ ?_|intro hb) ))))))|refine T.skip ?_|refine T.exit ?_|refine T.condT rfl ?_|refine T.condF rfl ?_|refine T.cond rfl (fun hc=>?_) (fun hc=>?_)|refine T.ret ?_|simp only [ThenA,InBlock,reduceIte,Nat.reduceEqDiff]|((repeat ((fail_if_success (refine hK _ ?_));clear hK K));refine hK _ ?_;clear hK K))
          refine T.drw 15 (by kernel_rfl) (by kernel_rfl) fun K' hK'=>?_;simp only [List.map_cons,List.map_nil];(repeat' (first|(with_reducible refine WL.fin ?_;refine hK' _ ?_;clear hK' K')|(with_reducible refine WD.fin ?_)|((with_reducible first|refine WL.step fun K2 hK2=>?_|refine WD.step fun K2 hK2=>?_);simp only [simprocAttr,implies_true,amz,abin,tys,hx,hy,evC,m1,m2,bvC];(repeat' (first|with_reducible (first|(refine hK2 _ ?_;clear hK2 K2)|refine And.intro ?_ ?_|intro hb)|((first|(with_reducible apply callArmO)|(with_reducible apply callArm));case h=>exact CallV.plain (Ent.of Try.func39 (by kernel_rfl) rfl) (hcf) (by simp [AV.okB])))))));all_goals ((try simp only [ThenA,InBlock,reduceIte,Nat.reduceEqDiff]);(try ((repeat ((fail_if_success (refine hK _ ?_));clear hK K));refine hK _ ?_;clear hK K)))
          all_goals repeat' (first|refine T.seqK fun K hK=>?_|refine T.block ?_|(refine T.reg (by kernel_rfl) fun K' hK'=>?_;simp only [startSt,frOf,List.map_cons,List.map_nil];(repeat' (first|(with_reducible refine WL.fin ?_;refine hK' _ ?_;clear hK' K')|((with_reducible refine WL.step fun K2 hK2=>?_);simp only [simprocAttr,implies_true,amz,abin,tys];(repeat' (first|with_reducible (first|(refine hK2 _ ?_;clear hK2 K2)|refine And.intro ?_ ?_|intro hb) ))))))|refine T.skip ?_|refine T.exit ?_|refine T.condT rfl ?_|refine T.condF rfl ?_|refine T.cond rfl (fun hc=>?_) (fun hc=>?_)|refine T.ret ?_|simp only [ThenA,InBlock,reduceIte,Nat.reduceEqDiff]|((repeat ((fail_if_success (refine hK _ ?_));clear hK K));refine hK _ ?_;clear hK K))
          refine hKL2 _ (k + 1) ?_ (by omega) (by omega)
          rw [hnext,hp,if_neg (by simp),List.append_nil]
          refine Weak.of' rfl ?_;simp only [wks,reduceIte,Nat.reduceEqDiff,ASt.okB,AV.okB,Nat.reduceLT,implies_true,wrap_succ (show k < 1152921504606846976 by omega)]
        | true =>
          rw [hcl] at hcf
          cases hv2:hbM l k j with
          | true =>
            rw [hv2] at m2
            have hp:racR l k j=false:=by simp [racR,hv2]
            repeat' (first|refine T.seqK fun K hK=>?_|refine T.block ?_|(refine T.reg (by kernel_rfl) fun K' hK'=>?_;simp only [startSt,frOf,List.map_cons,List.map_nil];(repeat' (first|(with_reducible refine WL.fin ?_;refine hK' _ ?_;clear hK' K')|((with_reducible refine WL.step fun K2 hK2=>?_);simp only [simprocAttr,implies_true,amz,abin,tys,hd2];(repeat' (first|with_reducible (first|(refine hK2 _ ?_;clear hK2 K2)|refine And.intro ?_ ?_|intro hb) ))))))|refine T.skip ?_|refine T.exit ?_|refine T.condT rfl ?_|refine T.condF rfl ?_|refine T.cond rfl (fun hc=>?_) (fun hc=>?_)|refine T.ret ?_|simp only [ThenA,InBlock,reduceIte,Nat.reduceEqDiff]|((repeat ((fail_if_success (refine hK _ ?_));clear hK K));refine hK _ ?_;clear hK K))
            refine T.drw 15 (by kernel_rfl) (by kernel_rfl) fun K' hK'=>?_;simp only [List.map_cons,List.map_nil];(repeat' (first|(with_reducible refine WL.fin ?_;refine hK' _ ?_;clear hK' K')|(with_reducible refine WD.fin ?_)|((with_reducible first|refine WL.step fun K2 hK2=>?_|refine WD.step fun K2 hK2=>?_);simp only [simprocAttr,implies_true,amz,abin,tys,hx,hy,evC,m1,m2,bvC];(repeat' (first|with_reducible (first|(refine hK2 _ ?_;clear hK2 K2)|refine And.intro ?_ ?_|intro hb)|((first|(with_reducible apply callArmO)|(with_reducible apply callArm));case h=>exact CallV.plain (Ent.of Try.func39 (by kernel_rfl) rfl) (hcf) (by simp [AV.okB])))))));all_goals ((try simp only [ThenA,InBlock,reduceIte,Nat.reduceEqDiff]);(try ((repeat ((fail_if_success (refine hK _ ?_));clear hK K));refine hK _ ?_;clear hK K)))
            all_goals repeat' (first|refine T.seqK fun K hK=>?_|refine T.block ?_|(refine T.reg (by kernel_rfl) fun K' hK'=>?_;simp only [startSt,frOf,List.map_cons,List.map_nil];(repeat' (first|(with_reducible refine WL.fin ?_;refine hK' _ ?_;clear hK' K')|((with_reducible refine WL.step fun K2 hK2=>?_);simp only [simprocAttr,implies_true,amz,abin,tys];(repeat' (first|with_reducible (first|(refine hK2 _ ?_;clear hK2 K2)|refine And.intro ?_ ?_|intro hb) ))))))|refine T.skip ?_|refine T.exit ?_|refine T.condT rfl ?_|refine T.condF rfl ?_|refine T.cond rfl (fun hc=>?_) (fun hc=>?_)|refine T.ret ?_|simp only [ThenA,InBlock,reduceIte,Nat.reduceEqDiff]|((repeat ((fail_if_success (refine hK _ ?_));clear hK K));refine hK _ ?_;clear hK K))
            refine hKL2 _ (k + 1) ?_ (by omega) (by omega)
            rw [hnext,hp,if_neg (by simp),List.append_nil]
            refine Weak.of' rfl ?_;simp only [wks,reduceIte,Nat.reduceEqDiff,ASt.okB,AV.okB,Nat.reduceLT,implies_true,wrap_succ (show k < 1152921504606846976 by omega)]
          | false =>
            rw [hv2] at m2
            have hp:racR l k j=true:=by simp [racR,hv2,hcl]
            repeat' (first|refine T.seqK fun K hK=>?_|refine T.block ?_|(refine T.reg (by kernel_rfl) fun K' hK'=>?_;simp only [startSt,frOf,List.map_cons,List.map_nil];(repeat' (first|(with_reducible refine WL.fin ?_;refine hK' _ ?_;clear hK' K')|((with_reducible refine WL.step fun K2 hK2=>?_);simp only [simprocAttr,implies_true,amz,abin,tys,hd2];(repeat' (first|with_reducible (first|(refine hK2 _ ?_;clear hK2 K2)|refine And.intro ?_ ?_|intro hb) ))))))|refine T.skip ?_|refine T.exit ?_|refine T.condT rfl ?_|refine T.condF rfl ?_|refine T.cond rfl (fun hc=>?_) (fun hc=>?_)|refine T.ret ?_|simp only [ThenA,InBlock,reduceIte,Nat.reduceEqDiff]|((repeat ((fail_if_success (refine hK _ ?_));clear hK K));refine hK _ ?_;clear hK K))
            refine T.drw 15 (by kernel_rfl) (by kernel_rfl) fun K' hK'=>?_;simp only [List.map_cons,List.map_nil];(repeat' (first|(with_reducible refine WL.fin ?_;refine hK' _ ?_;clear hK' K')|(with_reducible refine WD.fin ?_)|((with_reducible first|refine WL.step fun K2 hK2=>?_|refine WD.step fun K2 hK2=>?_);simp only [simprocAttr,implies_true,amz,abin,tys,hx,hy,evC,m1,m2,bvC];(repeat' (first|with_reducible (first|(refine hK2 _ ?_;clear hK2 K2)|refine And.intro ?_ ?_|intro hb)|((first|(with_reducible apply callArmO)|(with_reducible apply callArm));case h=>exact CallV.plain (Ent.of Try.func39 (by kernel_rfl) rfl) (hcf) (by simp [AV.okB])))))));all_goals ((try simp only [ThenA,InBlock,reduceIte,Nat.reduceEqDiff]);(try ((repeat ((fail_if_success (refine hK _ ?_));clear hK K));refine hK _ ?_;clear hK K)))
            all_goals repeat' (first|refine T.seqK fun K hK=>?_|refine T.block ?_|(refine T.reg (by kernel_rfl) fun K' hK'=>?_;simp only [startSt,frOf,List.map_cons,List.map_nil];(repeat' (first|(with_reducible refine WL.fin ?_;refine hK' _ ?_;clear hK' K')|((with_reducible refine WL.step fun K2 hK2=>?_);simp only [simprocAttr,implies_true,amz,abin,tys,hm0,hm1,hm2,rowQ_len];(repeat' (first|with_reducible (first|(refine hK2 _ ?_;clear hK2 K2)|refine And.intro ?_ ?_|intro hb) ))))))|refine T.skip ?_|refine T.exit ?_|refine T.condT rfl ?_|refine T.condF rfl ?_|refine T.cond rfl (fun hc=>?_) (fun hc=>?_)|refine T.ret ?_|simp only [ThenA,InBlock,reduceIte,Nat.reduceEqDiff]|((repeat ((fail_if_success (refine hK _ ?_));clear hK K));refine hK _ ?_;clear hK K))
            refine hKL2 _ (k + 1) ?_ (by omega) (by omega)
            rw [hnext,hp,if_pos rfl,← hsn]
            refine Weak.of' rfl ?_;simp only [wks,reduceIte,Nat.reduceEqDiff,ASt.okB,AV.okB,Nat.reduceLT,implies_true,wrap_succ (show k < 1152921504606846976 by omega)]
      · have hd2:decide ((k:Int) < (j:Int))=false:=by simpa using hkj
        have hke:k=j:=by omega
        subst hke
        repeat' (first|refine T.seqK fun K hK=>?_|refine T.block ?_|(refine T.reg (by kernel_rfl) fun K' hK'=>?_;simp only [startSt,frOf,List.map_cons,List.map_nil];(repeat' (first|(with_reducible refine WL.fin ?_;refine hK' _ ?_;clear hK' K')|((with_reducible refine WL.step fun K2 hK2=>?_);simp only [simprocAttr,implies_true,amz,abin,tys,hd2];(repeat' (first|with_reducible (first|(refine hK2 _ ?_;clear hK2 K2)|refine And.intro ?_ ?_|intro hb) ))))))|refine T.skip ?_|refine T.exit ?_|refine T.condT rfl ?_|refine T.condF rfl ?_|refine T.cond rfl (fun hc=>?_) (fun hc=>?_)|refine T.ret ?_|simp only [ThenA,InBlock,reduceIte,Nat.reduceEqDiff]|((repeat ((fail_if_success (refine hK _ ?_));clear hK K));refine hK _ ?_;clear hK K))
        refine hKL _ (k + 1) ?_ (by omega) (by omega)
        rw [prU]
        refine Weak.of' rfl ?_;simp only [wks,reduceIte,Nat.reduceEqDiff,ASt.okB,AV.okB,Nat.reduceLT,implies_true,wrap_succ (show k < 1152921504606846976 by omega)]
    · have hd:decide ((j:Int) < (n:Int))=false:=by simpa using hjn
      have hje:n=j:=by omega
      subst hje
      repeat' (first|refine T.seqK fun K hK=>?_|refine T.block ?_|(refine T.reg (by kernel_rfl) fun K' hK'=>?_;simp only [startSt,frOf,List.map_cons,List.map_nil];(repeat' (first|(with_reducible refine WL.fin ?_;refine hK' _ ?_;clear hK' K')|((with_reducible refine WL.step fun K2 hK2=>?_);simp only [simprocAttr,implies_true,amz,abin,tys,hd,← hn];(repeat' (first|with_reducible (first|(refine hK2 _ ?_;clear hK2 K2)|refine And.intro ?_ ?_|intro hb) ))))))|refine T.skip ?_|refine T.exit ?_|refine T.condT rfl ?_|refine T.condF rfl ?_|refine T.cond rfl (fun hc=>?_) (fun hc=>?_)|refine T.ret ?_|simp only [ThenA,InBlock,reduceIte,Nat.reduceEqDiff]|((repeat ((fail_if_success (refine hK _ ?_));clear hK K));refine hK _ ?_;clear hK K))
      refine FinA.retW (.inr rfl) Try.results25 (Weak.frz _ 0) ?_;simp only [ares,aresL,ares1,ASt.frz,ASt.subst,AO.sub_box,AO.sub_row,AO.sub_map,AO.sub_raw,AO.sub_lrec,AV.sub_p,AV.sub_elt,AV.sub_ptr,AV.sub_rptr,AV.sub_own,AV.sub_junk,AV.sub_cap0,AV.sub_agg,AV.sub_fn,AV.sub_tup,List.filter_cons,List.filter_nil,bne_self_eq_false,Nat.reduceBneDiff,Nat.reduceEqDiff,Bool.false_eq_true,simprocAttr,implies_true,amz,abin,tys]
theorem rowQ_at {r:List (Nat × Nat)} {k:Nat} {x:Nat × Nat} (h:r[k]? = some x):(rowQ r)[k]? = some (raC x):=by
  unfold rowQ;rw [List.getElem?_map,h];rfl
set_option maxHeartbeats 8000000 in
set_option maxRecDepth 100000 in
theorem sameRaces_ok (r:List (Nat × Nat)) (hr:r.length ≤ 1000000000000):PureC Try.prog 23 [.p (.seq 2 (rowQ r)),.p (.seq 2 (rowQ r))] (.bool true):=by
  have hlen:(rowQ r).length=r.length:=by simp [rowQ]
  refine PureC.of Try.func23 rfl 26 rfl (by decide) (by simp [AV.okB]) ?_
  repeat' (first|refine T.seqK fun K hK=>?_|refine T.block ?_|(refine T.reg (by kernel_rfl) fun K' hK'=>?_;simp only [startSt,frOf,List.map_cons,List.map_nil];(repeat' (first|(with_reducible refine WL.fin ?_;refine hK' _ ?_;clear hK' K')|((with_reducible refine WL.step fun K2 hK2=>?_);simp only [simprocAttr,implies_true,amz,abin,tys,hlen,bne_self_eq_false];(repeat' (first|with_reducible (first|(refine hK2 _ ?_;clear hK2 K2)|refine And.intro ?_ ?_|intro hb) ))))))|refine T.skip ?_|refine T.exit ?_|refine T.condT rfl ?_|refine T.condF rfl ?_|refine T.cond rfl (fun hc=>?_) (fun hc=>?_)|refine T.ret ?_|simp only [ThenA,InBlock,reduceIte,Nat.reduceEqDiff]|((repeat ((fail_if_success (refine hK _ ?_));clear hK K));refine hK _ ?_;clear hK K))
  refine T.loopK (fun k:Nat=>⟨[(0,.p (.seq 2 (rowQ r))),(1,.p (.seq 2 (rowQ r))),(5,.int k)],[],26,0⟩) (fun k=>k≤r.length) (fun k=>r.length - k) 0 (Nat.zero_le _) (by refine Weak.of' rfl ?_;simp only [wks,reduceIte,Nat.reduceEqDiff,ASt.okB,AV.okB,Nat.reduceLT,implies_true,Int.natCast_zero]) ?_
  intro k hk KL hKL
  by_cases hkr:k < r.length
  · have hd:decide ((k:Int) < (r.length:Int))=true:=by simpa using hkr
    obtain ⟨x,hx⟩:=at_lt hkr
    have m1:=rowQ_at hx
    repeat' (first|refine T.seqK fun K hK=>?_|refine T.block ?_|(refine T.reg (by kernel_rfl) fun K' hK'=>?_;simp only [startSt,frOf,List.map_cons,List.map_nil];(repeat' (first|(with_reducible refine WL.fin ?_;refine hK' _ ?_;clear hK' K')|((with_reducible refine WL.step fun K2 hK2=>?_);simp only [simprocAttr,implies_true,amz,abin,tys,hlen,hd];(repeat' (first|with_reducible (first|(refine hK2 _ ?_;clear hK2 K2)|refine And.intro ?_ ?_|intro hb) ))))))|refine T.skip ?_|refine T.exit ?_|refine T.condT rfl ?_|refine T.condF rfl ?_|refine T.cond rfl (fun hc=>?_) (fun hc=>?_)|refine T.ret ?_|simp only [ThenA,InBlock,reduceIte,Nat.reduceEqDiff]|((repeat ((fail_if_success (refine hK _ ?_));clear hK K));refine hK _ ?_;clear hK K))
    refine T.drw 8 (by kernel_rfl) (by kernel_rfl) fun K' hK'=>?_;simp only [List.map_cons,List.map_nil];(repeat' (first|(with_reducible refine WL.fin ?_;refine hK' _ ?_;clear hK' K')|(with_reducible refine WD.fin ?_)|((with_reducible first|refine WL.step fun K2 hK2=>?_|refine WD.step fun K2 hK2=>?_);simp only [simprocAttr,implies_true,amz,abin,tys,hlen,m1,edC,raC,aeqF,scEq,Bool.and_self,bne_self_eq_false,beq_self_eq_true];(repeat' (first|with_reducible (first|(refine hK2 _ ?_;clear hK2 K2)|refine And.intro ?_ ?_|intro hb) )))));all_goals ((try simp only [ThenA,InBlock,reduceIte,Nat.reduceEqDiff]);(try ((repeat ((fail_if_success (refine hK _ ?_));clear hK K));refine hK _ ?_;clear hK K)))
    all_goals repeat' (first|refine T.seqK fun K hK=>?_|refine T.block ?_|(refine T.reg (by kernel_rfl) fun K' hK'=>?_;simp only [startSt,frOf,List.map_cons,List.map_nil];(repeat' (first|(with_reducible refine WL.fin ?_;refine hK' _ ?_;clear hK' K')|((with_reducible refine WL.step fun K2 hK2=>?_);simp only [simprocAttr,implies_true,amz,abin,tys,hlen];(repeat' (first|with_reducible (first|(refine hK2 _ ?_;clear hK2 K2)|refine And.intro ?_ ?_|intro hb) ))))))|refine T.skip ?_|refine T.exit ?_|refine T.condT rfl ?_|refine T.condF rfl ?_|refine T.cond rfl (fun hc=>?_) (fun hc=>?_)|refine T.ret ?_|simp only [ThenA,InBlock,reduceIte,Nat.reduceEqDiff]|((repeat ((fail_if_success (refine hK _ ?_));clear hK K));refine hK _ ?_;clear hK K))
    refine hKL _ (k + 1) ?_ (by omega) (by omega)
    refine Weak.of' rfl ?_;simp only [wks,reduceIte,Nat.reduceEqDiff,ASt.okB,AV.okB,Nat.reduceLT,implies_true,wrap_succ (show k < 1152921504606846976 by omega)]
  · have hd:decide ((k:Int) < (r.length:Int))=false:=by simpa using hkr
    repeat' (first|refine T.seqK fun K hK=>?_|refine T.block ?_|(refine T.reg (by kernel_rfl) fun K' hK'=>?_;simp only [startSt,frOf,List.map_cons,List.map_nil];(repeat' (first|(with_reducible refine WL.fin ?_;refine hK' _ ?_;clear hK' K')|((with_reducible refine WL.step fun K2 hK2=>?_);simp only [simprocAttr,implies_true,amz,abin,tys,hlen,hd];(repeat' (first|with_reducible (first|(refine hK2 _ ?_;clear hK2 K2)|refine And.intro ?_ ?_|intro hb) ))))))|refine T.skip ?_|refine T.exit ?_|refine T.condT rfl ?_|refine T.condF rfl ?_|refine T.cond rfl (fun hc=>?_) (fun hc=>?_)|refine T.ret ?_|simp only [ThenA,InBlock,reduceIte,Nat.reduceEqDiff]|((repeat ((fail_if_success (refine hK _ ?_));clear hK K));refine hK _ ?_;clear hK K))
    refine FinA.ret (.inr rfl) Try.results23 ?_;simp only [ares,aresL,ares1,simprocAttr,implies_true,amz,abin,tys,]
end Go.Proofs.Ytnckehomadnhoaa
namespace Go.Proofs.Ytnckehomadnhoaa
open Go.RowKit Go.Sort
set_option linter.unusedSimpArgs false
set_option linter.unusedVariables false
theorem racesR_len {l:List Ev} (hl:l.length ≤ 100000):(racesR l).length ≤ 1000000000000:=by
  have h1:=prU_len (racR l) (fun j=>j) l.length (fun _=>Nat.le_succ _) l.length (Nat.le_refl _)
  have h2:l.length * l.length ≤ 100000 * 100000:=Nat.mul_le_mul hl hl
  unfold racesR
  split
  · omega
  · simp
set_option maxHeartbeats 4000000 in
set_option maxRecDepth 100000 in
theorem lawRaces_ok (l:List Ev):PureC Try.prog 6 [.p (.seq 9 (l.map evC))] (.bool true):=by
  have hw:=awake_ok
  have hlm:(l.map evC).length=l.length:=by simp
  by_cases hn:l.length ≤ 24
  · have h1:=races_ok l (by omega)
    have h2:=racesR_ok l (by omega)
    have h3:=sameRaces_ok (racesR l) (racesR_len (by omega))
    rw [races_eq] at h1
    have hg:decide ((24:Int) < (l.length:Int))=false:=by simp;omega
    refine PureC.of Try.func6 rfl 13 rfl (by decide) (by simp [AV.okB]) ?_
    repeat' (first|refine T.seqK fun K hK=>?_|refine T.block ?_|(refine T.reg (by kernel_rfl) fun K' hK'=>?_;simp only [startSt,frOf,List.map_cons,List.map_nil];(repeat' (first|(with_reducible refine WL.fin ?_;refine hK' _ ?_;clear hK' K')|((with_reducible refine WL.step fun K2 hK2=>?_);simp only [simprocAttr,implies_true,amz,tys,hlm,hg];(repeat' (first|with_reducible (first|(refine hK2 _ ?_;clear hK2 K2)|refine And.intro ?_ ?_|intro hb)|((first|(with_reducible apply callArmO)|(with_reducible apply callArm));case h=>exact CallV.plain (Ent.of Try.func12 (by kernel_rfl) rfl) (hw) (by simp [AV.okB]))|((first|(with_reducible apply callArmO)|(with_reducible apply callArm));case h=>exact CallV.plain (Ent.of Try.func24 (by kernel_rfl) rfl) (h1) (by simp [AV.okB]))|((first|(with_reducible apply callArmO)|(with_reducible apply callArm));case h=>exact CallV.plain (Ent.of Try.func25 (by kernel_rfl) rfl) (h2) (by simp [AV.okB]))|((first|(with_reducible apply callArmO)|(with_reducible apply callArm));case h=>exact CallV.plain (Ent.of Try.func23 (by kernel_rfl) rfl) (h3) (by simp [AV.okB]))))))))|refine T.skip ?_|refine T.exit ?_|refine T.condT rfl ?_|refine T.condF rfl ?_|refine T.cond rfl (fun hc=>?_) (fun hc=>?_)|refine T.ret ?_|simp only [ThenA,InBlock,reduceIte,Nat.reduceEqDiff]|((repeat ((fail_if_success (refine hK _ ?_));clear hK K));refine hK _ ?_;clear hK K))
    all_goals (refine FinA.ret (.inr rfl) Try.results6 ?_;simp only [ares,aresL,ares1,simprocAttr,implies_true,amz,tys,])
  · have hg:decide ((24:Int) < (l.length:Int))=true:=by simp;omega
    refine PureC.of Try.func6 rfl 13 rfl (by decide) (by simp [AV.okB]) ?_
    repeat' (first|refine T.seqK fun K hK=>?_|refine T.block ?_|(refine T.reg (by kernel_rfl) fun K' hK'=>?_;simp only [startSt,frOf,List.map_cons,List.map_nil];(repeat' (first|(with_reducible refine WL.fin ?_;refine hK' _ ?_;clear hK' K')|((with_reducible refine WL.step fun K2 hK2=>?_);simp only [simprocAttr,implies_true,amz,tys,hlm,hg];(repeat' (first|with_reducible (first|(refine hK2 _ ?_;clear hK2 K2)|refine And.intro ?_ ?_|intro hb)|((first|(with_reducible apply callArmO)|(with_reducible apply callArm));case h=>exact CallV.plain (Ent.of Try.func12 (by kernel_rfl) rfl) (hw) (by simp [AV.okB]))))))))|refine T.skip ?_|refine T.exit ?_|refine T.condT rfl ?_|refine T.condF rfl ?_|refine T.cond rfl (fun hc=>?_) (fun hc=>?_)|refine T.ret ?_|simp only [ThenA,InBlock,reduceIte,Nat.reduceEqDiff]|((repeat ((fail_if_success (refine hK _ ?_));clear hK K));refine hK _ ?_;clear hK K))
    all_goals (refine FinA.ret (.inr rfl) Try.results6 ?_;simp only [ares,aresL,ares1,simprocAttr,implies_true,amz,tys,])
end Go.Proofs.Ytnckehomadnhoaa
