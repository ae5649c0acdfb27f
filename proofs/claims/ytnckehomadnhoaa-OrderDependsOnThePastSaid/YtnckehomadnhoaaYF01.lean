/- Texts Qa, Qk, Ra, Ql, Qn, Qo. -/
import Derived.OpenShut
import Derived.Test.YtnckehomadnhoaaZ08
namespace Go.Proofs.Ytnckehomadnhoaa
open Go.RowKit Go.Sort Go.Maps
set_option linter.unusedSimpArgs false
set_option linter.unusedVariables false
theorem rowQ_at {r:List (Nat × Nat)} {k:Nat} {x:Nat × Nat} (h:r[k]? = some x):(rowQ r)[k]? = some (raC x):=by
  unfold rowQ;rw [List.getElem?_map,h];rfl
end Go.Proofs.Ytnckehomadnhoaa
namespace Go.Proofs.Ytnckehomadnhoaa
open Go.RowKit Go.Sort
set_option linter.unusedSimpArgs false
set_option linter.unusedVariables false
theorem racesR_len {l:List Ev} (hl:l.length ≤ 100000):(racesR l).length ≤ 1000000000000:=by
  have h1:=prU_len (racR l) (fun j=>j) l.length (fun _=>Nat.le_succ _) l.length (Nat.le_refl _)
  have h2:l.length * l.length ≤ 100000 * 100000:=Nat.mul_le_mul hl hl
  unfold racesR
  split
  · omega
  · simp
end Go.Proofs.Ytnckehomadnhoaa
namespace Go.Proofs.Ytnckehomadnhoaa
open Go.RowKit Go.Sort Go.ChangeShapes Go.WideShapes Go.ChangeAt
set_option maxRecDepth 100000
variable {H:Type} {enc:TypeId × Value→H} {W:World} {base:Nat} {spare:Nat→Bool} {held:Bool}
theorem open_i64 {r:Reach} {v:Value} (hval:Value.okWide Try.prog W r base 3 v) : ∃ x:Int,IntKind.i64.has x∧v = .int .i64 x:=by
  unfold Value.okWide at hval
  rw [show Try.prog.underlying 3=some (.int .i64) by kernel_rfl] at hval
  cases v <;> simp [Cell.okWide,Cell.ok,show Try.prog.underlying 3=some (.int .i64) by kernel_rfl] at hval
  rename_i k n
  obtain ⟨rfl,h⟩:=hval
  exact ⟨n,h,rfl⟩
end Go.Proofs.Ytnckehomadnhoaa
namespace Go.Proofs.Ytnckehomadnhoaa
open Go.RowKit Go.Sort
set_option linter.unusedSimpArgs false
set_option linter.unusedVariables false
theorem bef_nat {l:List Ev} (hv:(checkB l).2=true) {i j:Nat} (hi:i < l.length) (hj:j < l.length):befO l i j=hbB l j i:=by
  rw [bef_eq]
  unfold befR
  have d3:decide ((l.length:Int)≤(i:Int))=false:=by simp;omega
  have d4:decide ((l.length:Int)≤(j:Int))=false:=by simp;omega
  rw [hv,d3,d4]
  simp
end Go.Proofs.Ytnckehomadnhoaa
namespace Go.Proofs.Ytnckehomadnhoaa
set_option linter.unusedSimpArgs false
set_option linter.unusedVariables false
theorem imm_take {l:List Ev} {n i j:Nat} (hj:j < n) (hi:i < j):immL (l.take n) i j=immL l i j:=by
  unfold immL
  rw [List.getElem?_take_of_lt (by omega),List.getElem?_take_of_lt hj]
  cases hx:l[i]? with
  | none=>rfl
  | some x =>
    cases hy:l[j]? with
    | none=>rfl
    | some y =>
      simp only [immB,progB,stgoB,firstB,kndB,atomB,List.take_take,Nat.min_eq_left (show j≤n by omega)] <;> rfl
theorem hb_take {l:List Ev} {n:Nat} : ∀ (j:Nat) {a:Nat},j < n→hbB (l.take n) j a=hbB l j a:=by
  intro j
  induction j using Nat.strongRecOn with
  | ind j ih =>
    intro a hj
    rw [Bool.eq_iff_iff,hbB_iff,hbB_iff]
    refine exists_congr fun i=>?_
    constructor
    · rintro ⟨h1,h2,h3⟩
      rw [imm_take hj h1] at h2
      rw [ih i h1 (by omega)] at h3
      exact ⟨h1,h2,h3⟩
    · rintro ⟨h1,h2,h3⟩
      refine ⟨h1,by rw [imm_take hj h1];exact h2,?_⟩
      rw [ih i h1 (by omega)]
      exact h3
theorem conf_take {l:List Ev} {n i j:Nat} (hi:i < n) (hj:j < n):confL (l.take n) i j=confL l i j:=by
  unfold confL
  rw [List.getElem?_take_of_lt hi,List.getElem?_take_of_lt hj]
theorem racR_take {l:List Ev} {n i j:Nat} (hi:i < n) (hj:j < n):racR (l.take n) i j=racR l i j:=by
  unfold racR hbM
  rw [conf_take hi hj,hb_take j hj]
theorem prU_add (p:Nat→Nat→Bool) (b:Nat→Nat) (n:Nat) : ∀ d,∃ r,prU p b (n + d)=prU p b n ++ r ∧ ∀ x ∈ r,n≤x.2
  | 0=>⟨[],by simp,by simp⟩
  | d + 1=>by
    obtain ⟨r,h1,h2⟩:=prU_add p b n d
    refine ⟨r ++ prJ p (n + d) (b (n + d)),?_,fun x hx=>?_⟩
    · rw [← Nat.add_assoc,prU,h1,List.append_assoc]
    · rcases List.mem_append.1 hx with hx|hx
      · exact h2 x hx
      · unfold prJ at hx
        obtain ⟨i,_,rfl⟩:=List.mem_map.1 hx
        simp
theorem races_take {l:List Ev} {n:Nat} (hv:(checkB l).2=true) (hn:n≤l.length) (hv2:(checkB (l.take n)).2=true) : ∃ r,racesO l=racesO (l.take n) ++ r ∧ ∀ x ∈ r,n≤x.2:=by
  rw [races_eq,races_eq]
  unfold racesR
  rw [hv,hv2,if_pos rfl,if_pos rfl,List.length_take,Nat.min_eq_left hn]
  obtain ⟨r,h1,h2⟩:=prU_add (racR l) (fun j=>j) n (l.length - n)
  rw [show n + (l.length - n)=l.length by omega] at h1
  refine ⟨r,?_,h2⟩
  rw [h1]
  congr 1
  exact prU_congr fun j hj=>prJ_congr fun i hi=>(racR_take (show i < n by omega) hj).symm
end Go.Proofs.Ytnckehomadnhoaa
namespace Go.Proofs.Ytnckehomadnhoaa
open Go.RowKit Go.Sort
set_option linter.unusedSimpArgs false
set_option linter.unusedVariables false
set_option maxHeartbeats 8000000 in
set_option maxRecDepth 100000 in
theorem lawPast_ok (l:List Ev) (n:Int):PureC Try.prog 8 [.p (.seq 9 (l.map evC)),.int n] (.bool true):=by
  have hw:=awake_ok
  have hlm:(l.map evC).length=l.length:=by simp
  by_cases hn:l.length ≤ 24
  case neg =>
    have hg:decide ((24:Int) < (l.length:Int))=true:=by simp;omega
    refine PureC.of Try.func8 rfl 100 rfl (by decide) (by simp [AV.okB]) ?_
    repeat' (first|refine T.seqK fun K hK=>?_|refine T.block ?_|(refine T.reg (by kernel_rfl) fun K' hK'=>?_;simp only [startSt,frOf,List.map_cons,List.map_nil];(repeat' (first|(with_reducible refine WL.fin ?_;refine hK' _ ?_;clear hK' K')|((with_reducible refine WL.step fun K2 hK2=>?_);simp only [simprocAttr,implies_true,amz,abin,tys,hlm,hg];(repeat' (first|with_reducible (first|(refine hK2 _ ?_;clear hK2 K2)|refine And.intro ?_ ?_|intro hb)|((first|(with_reducible apply callArmO)|(with_reducible apply callArm));case h=>exact CallV.plain (Ent.of Try.func12 (by kernel_rfl) rfl) (hw) (by simp [AV.okB]))))))))|refine T.skip ?_|refine T.exit ?_|refine T.condT rfl ?_|refine T.condF rfl ?_|refine T.cond rfl (fun hc=>?_) (fun hc=>?_)|refine T.ret ?_|simp only [ThenA,InBlock,reduceIte,Nat.reduceEqDiff]|((repeat ((fail_if_success (refine hK _ ?_));clear hK K));refine hK _ ?_;clear hK K))
    all_goals (refine FinA.ret (.inr rfl) Try.results8 ?_;simp only [ares,aresL,ares1,simprocAttr,implies_true,amz,abin,tys,])
  have hg:decide ((24:Int) < (l.length:Int))=false:=by simp;omega
  have hv:=validT_ok l (by omega)
  by_cases hn0:n < 0
  · have hg0:decide (n < 0)=true:=by simpa using hn0
    refine PureC.of Try.func8 rfl 100 rfl (by decide) (by simp [AV.okB]) ?_
    repeat' (first|refine T.seqK fun K hK=>?_|refine T.block ?_|(refine T.reg (by kernel_rfl) fun K' hK'=>?_;simp only [startSt,frOf,List.map_cons,List.map_nil];(repeat' (first|(with_reducible refine WL.fin ?_;refine hK' _ ?_;clear hK' K')|((with_reducible refine WL.step fun K2 hK2=>?_);simp only [simprocAttr,implies_true,amz,abin,tys,hlm,hg,hg0];(repeat' (first|with_reducible (first|(refine hK2 _ ?_;clear hK2 K2)|refine And.intro ?_ ?_|intro hb)|((first|(with_reducible apply callArmO)|(with_reducible apply callArm));case h=>exact CallV.plain (Ent.of Try.func12 (by kernel_rfl) rfl) (hw) (by simp [AV.okB]))))))))|refine T.skip ?_|refine T.exit ?_|refine T.condT rfl ?_|refine T.condF rfl ?_|refine T.cond rfl (fun hc=>?_) (fun hc=>?_)|refine T.ret ?_|simp only [ThenA,InBlock,reduceIte,Nat.reduceEqDiff]|((repeat ((fail_if_success (refine hK _ ?_));clear hK K));refine hK _ ?_;clear hK K))
    all_goals (refine FinA.ret (.inr rfl) Try.results8 ?_;simp only [ares,aresL,ares1,simprocAttr,implies_true,amz,abin,tys,])
  have hg0:decide (n < 0)=false:=by simpa using hn0
  by_cases hn1:(l.length:Int) < n
  · have hg1:decide ((l.length:Int) < n)=true:=by simpa using hn1
    refine PureC.of Try.func8 rfl 100 rfl (by decide) (by simp [AV.okB]) ?_
    repeat' (first|refine T.seqK fun K hK=>?_|refine T.block ?_|(refine T.reg (by kernel_rfl) fun K' hK'=>?_;simp only [startSt,frOf,List.map_cons,List.map_nil];(repeat' (first|(with_reducible refine WL.fin ?_;refine hK' _ ?_;clear hK' K')|((with_reducible refine WL.step fun K2 hK2=>?_);simp only [simprocAttr,implies_true,amz,abin,tys,hlm,hg,hg0,hg1];(repeat' (first|with_reducible (first|(refine hK2 _ ?_;clear hK2 K2)|refine And.intro ?_ ?_|intro hb)|((first|(with_reducible apply callArmO)|(with_reducible apply callArm));case h=>exact CallV.plain (Ent.of Try.func12 (by kernel_rfl) rfl) (hw) (by simp [AV.okB]))))))))|refine T.skip ?_|refine T.exit ?_|refine T.condT rfl ?_|refine T.condF rfl ?_|refine T.cond rfl (fun hc=>?_) (fun hc=>?_)|refine T.ret ?_|simp only [ThenA,InBlock,reduceIte,Nat.reduceEqDiff]|((repeat ((fail_if_success (refine hK _ ?_));clear hK K));refine hK _ ?_;clear hK K))
    all_goals (refine FinA.ret (.inr rfl) Try.results8 ?_;simp only [ares,aresL,ares1,simprocAttr,implies_true,amz,abin,tys,])
  have hg1:decide ((l.length:Int) < n)=false:=by simpa using hn1
  cases h5:(checkB l).2 with
  | false =>
    rw [h5] at hv
    refine PureC.of Try.func8 rfl 100 rfl (by decide) (by simp [AV.okB]) ?_
    repeat' (first|refine T.seqK fun K hK=>?_|refine T.block ?_|(refine T.reg (by kernel_rfl) fun K' hK'=>?_;simp only [startSt,frOf,List.map_cons,List.map_nil];(repeat' (first|(with_reducible refine WL.fin ?_;refine hK' _ ?_;clear hK' K')|((with_reducible refine WL.step fun K2 hK2=>?_);simp only [simprocAttr,implies_true,amz,abin,tys,hlm,hg,hg0,hg1];(repeat' (first|with_reducible (first|(refine hK2 _ ?_;clear hK2 K2)|refine And.intro ?_ ?_|intro hb)|((first|(with_reducible apply callArmO)|(with_reducible apply callArm));case h=>exact CallV.plain (Ent.of Try.func12 (by kernel_rfl) rfl) (hw) (by simp [AV.okB]))|((first|(with_reducible apply callArmO)|(with_reducible apply callArm));case h=>exact CallV.plain (Ent.of Try.func18 (by kernel_rfl) rfl) (hv) (by simp [AV.okB]))))))))|refine T.skip ?_|refine T.exit ?_|refine T.condT rfl ?_|refine T.condF rfl ?_|refine T.cond rfl (fun hc=>?_) (fun hc=>?_)|refine T.ret ?_|simp only [ThenA,InBlock,reduceIte,Nat.reduceEqDiff]|((repeat ((fail_if_success (refine hK _ ?_));clear hK K));refine hK _ ?_;clear hK K))
    all_goals (refine FinA.ret (.inr rfl) Try.results8 ?_;simp only [ares,aresL,ares1,simprocAttr,implies_true,amz,abin,tys,])
  | true =>
    rw [h5] at hv
    obtain ⟨N,rfl⟩ : ∃ N:Nat,n=N:=⟨n.toNat,by omega⟩
    have hNl:N≤l.length:=by omega
    have h0N:(0:Int)≤(N:Int):=by omega
    have hNi:(N:Int)≤(l.length:Int):=by omega
    have htk:List.take N (l.map evC)=(l.take N).map evC:=by rw [List.map_take]
    have hv2:=validT_ok (l.take N) (by simp;omega)
    cases h6:(checkB (l.take N)).2 with
    | false =>
      rw [h6] at hv2
      refine PureC.of Try.func8 rfl 100 rfl (by decide) (by simp [AV.okB]) ?_
      repeat' (first|refine T.seqK fun K hK=>?_|refine T.block ?_|(refine T.reg (by kernel_rfl) fun K' hK'=>?_;simp only [startSt,frOf,List.map_cons,List.map_nil];(repeat' (first|(with_reducible refine WL.fin ?_;refine hK' _ ?_;clear hK' K')|((with_reducible refine WL.step fun K2 hK2=>?_);simp only [simprocAttr,implies_true,amz,abin,tys,hlm,hg,hg0,hg1,h0N,hNi,htk,Int.toNat_natCast,List.drop_zero];(repeat' (first|with_reducible (first|(refine hK2 _ ?_;clear hK2 K2)|refine And.intro ?_ ?_|intro hb)|((first|(with_reducible apply callArmO)|(with_reducible apply callArm));case h=>exact CallV.plain (Ent.of Try.func12 (by kernel_rfl) rfl) (hw) (by simp [AV.okB]))|((first|(with_reducible apply callArmO)|(with_reducible apply callArm));case h=>exact CallV.plain (Ent.of Try.func18 (by kernel_rfl) rfl) (hv) (by simp [AV.okB]))|((first|(with_reducible apply callArmO)|(with_reducible apply callArm));case h=>exact CallV.plain (Ent.of Try.func18 (by kernel_rfl) rfl) (hv2) (by simp [AV.okB]))))))))|refine T.skip ?_|refine T.exit ?_|refine T.condT rfl ?_|refine T.condF rfl ?_|refine T.cond rfl (fun hc=>?_) (fun hc=>?_)|refine T.ret ?_|simp only [ThenA,InBlock,reduceIte,Nat.reduceEqDiff]|((repeat ((fail_if_success (refine hK _ ?_));clear hK K));refine hK _ ?_;clear hK K))
      all_goals (refine FinA.ret (.inr rfl) Try.results8 ?_;simp only [ares,aresL,ares1,simprocAttr,implies_true,amz,abin,tys,])
    | true =>
      rw [h6] at hv2
      obtain ⟨r,hr,hr2⟩:=races_take h5 hNl h6
      have hra:=races_ok (l.take N) (by simp;omega)
      have hrb:=races_ok l (by omega)
      have hAl:(racesO (l.take N)).length ≤ 1000000000000:=by rw [races_eq];exact racesR_len (by simp;omega)
      rw [hr] at hrb
      generalize racesO (l.take N)=A at hra hrb hAl hr
      have hb1:=fun a b=>before_ok l (by omega) a b
      have hb2:=fun a b=>before_ok (l.take N) (by simp;omega) a b
      refine PureC.of Try.func8 rfl 100 rfl (by decide) (by simp [AV.okB]) ?_
      repeat' (first|refine T.seqK fun K hK=>?_|refine T.block ?_|(refine T.reg (by kernel_rfl) fun K' hK'=>?_;simp only [startSt,frOf,List.map_cons,List.map_nil];(repeat' (first|(with_reducible refine WL.fin ?_;refine hK' _ ?_;clear hK' K')|((with_reducible refine WL.step fun K2 hK2=>?_);simp only [simprocAttr,implies_true,amz,abin,tys,hlm,hg,hg0,hg1,h0N,hNi,htk,Int.toNat_natCast,List.drop_zero];(repeat' (first|with_reducible (first|(refine hK2 _ ?_;clear hK2 K2)|refine And.intro ?_ ?_|intro hb)|((first|(with_reducible apply callArmO)|(with_reducible apply callArm));case h=>exact CallV.plain (Ent.of Try.func12 (by kernel_rfl) rfl) (hw) (by simp [AV.okB]))|((first|(with_reducible apply callArmO)|(with_reducible apply callArm));case h=>exact CallV.plain (Ent.of Try.func18 (by kernel_rfl) rfl) (hv) (by simp [AV.okB]))|((first|(with_reducible apply callArmO)|(with_reducible apply callArm));case h=>exact CallV.plain (Ent.of Try.func18 (by kernel_rfl) rfl) (hv2) (by simp [AV.okB]))))))))|refine T.skip ?_|refine T.exit ?_|refine T.condT rfl ?_|refine T.condF rfl ?_|refine T.cond rfl (fun hc=>?_) (fun hc=>?_)|refine T.ret ?_|simp only [ThenA,InBlock,reduceIte,Nat.reduceEqDiff]|((repeat ((fail_if_success (refine hK _ ?_));clear hK K));refine hK _ ?_;clear hK K))
      refine T.loopK (fun k:Nat=>⟨[(0,.p (.seq 9 (l.map evC))),(1,.int N),(5,.int k)],[],100,0⟩) (fun k=>k≤N) (fun k=>N - k) 0 (Nat.zero_le _) (by refine Weak.of' rfl ?_;simp only [wks,reduceIte,Nat.reduceEqDiff,ASt.okB,AV.okB,Nat.reduceLT,implies_true,Int.natCast_zero]) ?_
      intro a ha KL hKL
      by_cases han:a < N
      · have hd:decide ((a:Int) < (N:Int))=true:=by simpa using han
        repeat' (first|refine T.seqK fun K hK=>?_|refine T.block ?_|(refine T.reg (by kernel_rfl) fun K' hK'=>?_;simp only [startSt,frOf,List.map_cons,List.map_nil];(repeat' (first|(with_reducible refine WL.fin ?_;refine hK' _ ?_;clear hK' K')|((with_reducible refine WL.step fun K2 hK2=>?_);simp only [simprocAttr,implies_true,amz,abin,tys,hd];(repeat' (first|with_reducible (first|(refine hK2 _ ?_;clear hK2 K2)|refine And.intro ?_ ?_|intro hb) ))))))|refine T.skip ?_|refine T.exit ?_|refine T.condT rfl ?_|refine T.condF rfl ?_|refine T.cond rfl (fun hc=>?_) (fun hc=>?_)|refine T.ret ?_|simp only [ThenA,InBlock,reduceIte,Nat.reduceEqDiff]|((repeat ((fail_if_success (refine hK _ ?_));clear hK K));refine hK _ ?_;clear hK K))
        refine T.loopK (fun k:Nat=>⟨[(0,.p (.seq 9 (l.map evC))),(1,.int N),(5,.int a),(6,.int k)],[],100,0⟩) (fun k=>k≤N) (fun k=>N - k) 0 (Nat.zero_le _) (by refine Weak.of' rfl ?_;simp only [wks,reduceIte,Nat.reduceEqDiff,ASt.okB,AV.okB,Nat.reduceLT,implies_true,Int.natCast_zero]) ?_
        intro b hb KL2 hKL2
        by_cases hbn:b < N
        · have hd2:decide ((b:Int) < (N:Int))=true:=by simpa using hbn
          have q1:=hb1 a b
          have q2:=hb2 a b
          rw [bef_nat h5 (by omega) (by omega)] at q1
          rw [bef_nat h6 (by simp;omega) (by simp;omega),hb_take b hbn] at q2
          repeat' (first|refine T.seqK fun K hK=>?_|refine T.block ?_|(refine T.reg (by kernel_rfl) fun K' hK'=>?_;simp only [startSt,frOf,List.map_cons,List.map_nil];(repeat' (first|(with_reducible refine WL.fin ?_;refine hK' _ ?_;clear hK' K')|((with_reducible refine WL.step fun K2 hK2=>?_);simp only [simprocAttr,implies_true,amz,abin,tys,hd2];(repeat' (first|with_reducible (first|(refine hK2 _ ?_;clear hK2 K2)|refine And.intro ?_ ?_|intro hb) ))))))|refine T.skip ?_|refine T.exit ?_|refine T.condT rfl ?_|refine T.condF rfl ?_|refine T.cond rfl (fun hc=>?_) (fun hc=>?_)|refine T.ret ?_|simp only [ThenA,InBlock,reduceIte,Nat.reduceEqDiff]|((repeat ((fail_if_success (refine hK _ ?_));clear hK K));refine hK _ ?_;clear hK K))
          refine T.drw 9 (by kernel_rfl) (by kernel_rfl) fun K' hK'=>?_;simp only [List.map_cons,List.map_nil];(repeat' (first|(with_reducible refine WL.fin ?_;refine hK' _ ?_;clear hK' K')|(with_reducible refine WD.fin ?_)|((with_reducible first|refine WL.step fun K2 hK2=>?_|refine WD.step fun K2 hK2=>?_);simp only [simprocAttr,implies_true,amz,abin,tys,hlm,h0N,hNi,htk,Int.toNat_natCast,List.drop_zero,bne_self_eq_false,beq_self_eq_true,Bool.not_true];(repeat' (first|with_reducible (first|(refine hK2 _ ?_;clear hK2 K2)|refine And.intro ?_ ?_|intro hb)|((first|(with_reducible apply callArmO)|(with_reducible apply callArm));case h=>exact CallV.plain (Ent.of Try.func16 (by kernel_rfl) rfl) (q1) (by simp [AV.okB]))|((first|(with_reducible apply callArmO)|(with_reducible apply callArm));case h=>exact CallV.plain (Ent.of Try.func16 (by kernel_rfl) rfl) (q2) (by simp [AV.okB])))))));all_goals ((try simp only [ThenA,InBlock,reduceIte,Nat.reduceEqDiff]);(try ((repeat ((fail_if_success (refine hK _ ?_));clear hK K));refine hK _ ?_;clear hK K)))
          all_goals repeat' (first|refine T.seqK fun K hK=>?_|refine T.block ?_|(refine T.reg (by kernel_rfl) fun K' hK'=>?_;simp only [startSt,frOf,List.map_cons,List.map_nil];(repeat' (first|(with_reducible refine WL.fin ?_;refine hK' _ ?_;clear hK' K')|((with_reducible refine WL.step fun K2 hK2=>?_);simp only [simprocAttr,implies_true,amz,abin,tys];(repeat' (first|with_reducible (first|(refine hK2 _ ?_;clear hK2 K2)|refine And.intro ?_ ?_|intro hb) ))))))|refine T.skip ?_|refine T.exit ?_|refine T.condT rfl ?_|refine T.condF rfl ?_|refine T.cond rfl (fun hc=>?_) (fun hc=>?_)|refine T.ret ?_|simp only [ThenA,InBlock,reduceIte,Nat.reduceEqDiff]|((repeat ((fail_if_success (refine hK _ ?_));clear hK K));refine hK _ ?_;clear hK K))
          refine hKL2 _ (b + 1) ?_ (by omega) (by omega)
          refine Weak.of' rfl ?_;simp only [wks,reduceIte,Nat.reduceEqDiff,ASt.okB,AV.okB,Nat.reduceLT,implies_true,wrap_succ (show b < 1152921504606846976 by omega)]
        · have hd2:decide ((b:Int) < (N:Int))=false:=by simpa using hbn
          repeat' (first|refine T.seqK fun K hK=>?_|refine T.block ?_|(refine T.reg (by kernel_rfl) fun K' hK'=>?_;simp only [startSt,frOf,List.map_cons,List.map_nil];(repeat' (first|(with_reducible refine WL.fin ?_;refine hK' _ ?_;clear hK' K')|((with_reducible refine WL.step fun K2 hK2=>?_);simp only [simprocAttr,implies_true,amz,abin,tys,hd2];(repeat' (first|with_reducible (first|(refine hK2 _ ?_;clear hK2 K2)|refine And.intro ?_ ?_|intro hb) ))))))|refine T.skip ?_|refine T.exit ?_|refine T.condT rfl ?_|refine T.condF rfl ?_|refine T.cond rfl (fun hc=>?_) (fun hc=>?_)|refine T.ret ?_|simp only [ThenA,InBlock,reduceIte,Nat.reduceEqDiff]|((repeat ((fail_if_success (refine hK _ ?_));clear hK K));refine hK _ ?_;clear hK K))
          refine hKL _ (a + 1) ?_ (by omega) (by omega)
          refine Weak.of' rfl ?_;simp only [wks,reduceIte,Nat.reduceEqDiff,ASt.okB,AV.okB,Nat.reduceLT,implies_true,wrap_succ (show a < 1152921504606846976 by omega)]
      · have hd:decide ((a:Int) < (N:Int))=false:=by simpa using han
        repeat' (first|refine T.seqK fun K hK=>?_|refine T.block ?_|(refine T.reg (by kernel_rfl) fun K' hK'=>?_;simp only [startSt,frOf,List.map_cons,List.map_nil];(repeat' (first|(with_reducible refine WL.fin ?_;refine hK' _ ?_;clear hK' K')|((with_reducible refine WL.step fun K2 hK2=>?_);simp only [simprocAttr,implies_true,amz,abin,tys,hlm,hd,h0N,hNi,htk,Int.toNat_natCast,List.drop_zero];(repeat' (first|with_reducible (first|(refine hK2 _ ?_;clear hK2 K2)|refine And.intro ?_ ?_|intro hb)|((first|(with_reducible apply callArmO)|(with_reducible apply callArm));case h=>exact CallV.plain (Ent.of Try.func24 (by kernel_rfl) rfl) (hra) (by simp [AV.okB]))|((first|(with_reducible apply callArmO)|(with_reducible apply callArm));case h=>exact CallV.plain (Ent.of Try.func24 (by kernel_rfl) rfl) (hrb) (by simp [AV.okB]))))))))|refine T.skip ?_|refine T.exit ?_|refine T.condT rfl ?_|refine T.condF rfl ?_|refine T.cond rfl (fun hc=>?_) (fun hc=>?_)|refine T.ret ?_|simp only [ThenA,InBlock,reduceIte,Nat.reduceEqDiff]|((repeat ((fail_if_success (refine hK _ ?_));clear hK K));refine hK _ ?_;clear hK K))
        refine T.loopK (fun k:Nat=>⟨[(1,.int N),(7,.p (.seq 2 (rowQ A))),(8,.p (.seq 2 (rowQ (A ++ r)))),(9,.int k)],[],100,0⟩) (fun k=>k≤A.length) (fun k=>A.length - k) 0 (Nat.zero_le _) (by refine Weak.of' rfl ?_;simp only [wks,reduceIte,Nat.reduceEqDiff,ASt.okB,AV.okB,Nat.reduceLT,implies_true,Int.natCast_zero]) ?_
        intro k hk KL3 hKL3
        by_cases hkA:k < A.length
        · have hd3:decide ((k:Int) < (A.length:Int))=true:=by simpa using hkA
          have hd4:decide (((A ++ r).length:Int)≤(k:Int))=false:=by simp;omega
          obtain ⟨x,hx⟩:=at_lt hkA
          have m1:=rowQ_at hx
          have m2:=rowQ_at (show (A ++ r)[k]? = some x by rw [List.getElem?_append_left hkA];exact hx)
          repeat' (first|refine T.seqK fun K hK=>?_|refine T.block ?_|(refine T.reg (by kernel_rfl) fun K' hK'=>?_;simp only [startSt,frOf,List.map_cons,List.map_nil];(repeat' (first|(with_reducible refine WL.fin ?_;refine hK' _ ?_;clear hK' K')|((with_reducible refine WL.step fun K2 hK2=>?_);simp only [simprocAttr,implies_true,amz,abin,tys,rowQ_len,hd3];(repeat' (first|with_reducible (first|(refine hK2 _ ?_;clear hK2 K2)|refine And.intro ?_ ?_|intro hb) ))))))|refine T.skip ?_|refine T.exit ?_|refine T.condT rfl ?_|refine T.condF rfl ?_|refine T.cond rfl (fun hc=>?_) (fun hc=>?_)|refine T.ret ?_|simp only [ThenA,InBlock,reduceIte,Nat.reduceEqDiff]|((repeat ((fail_if_success (refine hK _ ?_));clear hK K));refine hK _ ?_;clear hK K))
          refine T.drw 14 (by kernel_rfl) (by kernel_rfl) fun K' hK'=>?_;simp only [List.map_cons,List.map_nil];(repeat' (first|(with_reducible refine WL.fin ?_;refine hK' _ ?_;clear hK' K')|(with_reducible refine WD.fin ?_)|((with_reducible first|refine WL.step fun K2 hK2=>?_|refine WD.step fun K2 hK2=>?_);simp only [simprocAttr,implies_true,amz,abin,tys,rowQ_len,hd4,m1,m2,raC,aeqF,scEq,Bool.and_self,bne_self_eq_false,beq_self_eq_true,Bool.not_true];(repeat' (first|with_reducible (first|(refine hK2 _ ?_;clear hK2 K2)|refine And.intro ?_ ?_|intro hb) )))));all_goals ((try simp only [ThenA,InBlock,reduceIte,Nat.reduceEqDiff]);(try ((repeat ((fail_if_success (refine hK _ ?_));clear hK K));refine hK _ ?_;clear hK K)))
          all_goals repeat' (first|refine T.seqK fun K hK=>?_|refine T.block ?_|(refine T.reg (by kernel_rfl) fun K' hK'=>?_;simp only [startSt,frOf,List.map_cons,List.map_nil];(repeat' (first|(with_reducible refine WL.fin ?_;refine hK' _ ?_;clear hK' K')|((with_reducible refine WL.step fun K2 hK2=>?_);simp only [simprocAttr,implies_true,amz,abin,tys];(repeat' (first|with_reducible (first|(refine hK2 _ ?_;clear hK2 K2)|refine And.intro ?_ ?_|intro hb) ))))))|refine T.skip ?_|refine T.exit ?_|refine T.condT rfl ?_|refine T.condF rfl ?_|refine T.cond rfl (fun hc=>?_) (fun hc=>?_)|refine T.ret ?_|simp only [ThenA,InBlock,reduceIte,Nat.reduceEqDiff]|((repeat ((fail_if_success (refine hK _ ?_));clear hK K));refine hK _ ?_;clear hK K))
          refine hKL3 _ (k + 1) ?_ (by omega) (by omega)
          refine Weak.of' rfl ?_;simp only [wks,reduceIte,Nat.reduceEqDiff,ASt.okB,AV.okB,Nat.reduceLT,implies_true,wrap_succ (show k < 1152921504606846976 by omega)]
        · have hd3:decide ((k:Int) < (A.length:Int))=false:=by simpa using hkA
          cases r with
          | nil =>
            repeat' (first|refine T.seqK fun K hK=>?_|refine T.block ?_|(refine T.reg (by kernel_rfl) fun K' hK'=>?_;simp only [startSt,frOf,List.map_cons,List.map_nil];(repeat' (first|(with_reducible refine WL.fin ?_;refine hK' _ ?_;clear hK' K')|((with_reducible refine WL.step fun K2 hK2=>?_);simp only [simprocAttr,implies_true,amz,abin,tys,rowQ_len,hd3,beq_self_eq_true];(repeat' (first|with_reducible (first|(refine hK2 _ ?_;clear hK2 K2)|refine And.intro ?_ ?_|intro hb) ))))))|refine T.skip ?_|refine T.exit ?_|refine T.condT rfl ?_|refine T.condF rfl ?_|refine T.cond rfl (fun hc=>?_) (fun hc=>?_)|refine T.ret ?_|simp only [ThenA,InBlock,reduceIte,Nat.reduceEqDiff]|((repeat ((fail_if_success (refine hK _ ?_));clear hK K));refine hK _ ?_;clear hK K))
            refine FinA.ret (.inr rfl) Try.results8 ?_;simp only [ares,aresL,ares1,simprocAttr,implies_true,amz,abin,tys,]
          | cons x r =>
            have hd5:(((A ++ x :: r).length:Int) == (A.length:Int))=false:=by
              rw [beq_eq_false_iff_ne];simp;omega
            have m1:=rowQ_at (show (A ++ x :: r)[A.length]? = some x by simp)
            have hx2:=hr2 x (List.mem_cons_self ..)
            have hd6:decide ((N:Int)≤(x.2:Int))=true:=by simpa using hx2
            repeat' (first|refine T.seqK fun K hK=>?_|refine T.block ?_|(refine T.reg (by kernel_rfl) fun K' hK'=>?_;simp only [startSt,frOf,List.map_cons,List.map_nil];(repeat' (first|(with_reducible refine WL.fin ?_;refine hK' _ ?_;clear hK' K')|((with_reducible refine WL.step fun K2 hK2=>?_);simp only [simprocAttr,implies_true,amz,abin,tys,rowQ_len,hd3,hd5,hd6,m1,raC,Int.toNat_natCast];(repeat' (first|with_reducible (first|(refine hK2 _ ?_;clear hK2 K2)|refine And.intro ?_ ?_|intro hb) ))))))|refine T.skip ?_|refine T.exit ?_|refine T.condT rfl ?_|refine T.condF rfl ?_|refine T.cond rfl (fun hc=>?_) (fun hc=>?_)|refine T.ret ?_|simp only [ThenA,InBlock,reduceIte,Nat.reduceEqDiff]|((repeat ((fail_if_success (refine hK _ ?_));clear hK K));refine hK _ ?_;clear hK K))
            refine FinA.ret (.inr rfl) Try.results8 ?_;simp only [ares,aresL,ares1,simprocAttr,implies_true,amz,abin,tys,]
end Go.Proofs.Ytnckehomadnhoaa
