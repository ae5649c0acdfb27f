/- Texts Qa, Qk, Ra, Ql, Qt, Qu. -/
import Derived.OpenShut
import Derived.Test.YtnckehomadnhoaaZ08
namespace Go.Proofs.Ytnckehomadnhoaa
open Go.RowKit Go.Sort Go.Maps
set_option linter.unusedSimpArgs false
set_option linter.unusedVariables false
theorem rowQ_at {r:List (Nat × Nat)} {k:Nat} {x:Nat × Nat} (h:r[k]? = some x):(rowQ r)[k]? = some (raC x):=by
  unfold rowQ;rw [List.getElem?_map,h];rfl
end Go.Proofs.Ytnckehomadnhoaa
namespace Go.Proofs.Ytnckehomadnhoaa
open Go.RowKit Go.Sort
set_option linter.unusedSimpArgs false
set_option linter.unusedVariables false
theorem racesR_len {l:List Ev} (hl:l.length ≤ 100000):(racesR l).length ≤ 1000000000000:=by
  have h1:=prU_len (racR l) (fun j=>j) l.length (fun _=>Nat.le_succ _) l.length (Nat.le_refl _)
  have h2:l.length * l.length ≤ 100000 * 100000:=Nat.mul_le_mul hl hl
  unfold racesR
  split
  · omega
  · simp
end Go.Proofs.Ytnckehomadnhoaa
namespace Go.Proofs.Ytnckehomadnhoaa
open Go.RowKit Go.Sort Go.ChangeShapes Go.WideShapes Go.ChangeAt
set_option maxRecDepth 100000
variable {H:Type} {enc:TypeId × Value→H} {W:World} {base:Nat} {spare:Nat→Bool} {held:Bool}
theorem has_u8 {n:Int} (h:IntKind.u8.has n) : 0≤n∧n < 256:=by
  simp only [IntKind.has,IntKind.min,IntKind.max,IntKind.bits,IntKind.signed] at h
  simp at h;omega
theorem open_u8 {r:Reach} {v:Value} (hval:Value.okWide Try.prog W r base 5 v) : ∃ x:Nat,x < 256∧v = .int .u8 (x:Int):=by
  unfold Value.okWide at hval
  rw [show Try.prog.underlying 5=some (.int .u8) by kernel_rfl] at hval
  cases v <;> simp [Cell.okWide,Cell.ok,show Try.prog.underlying 5=some (.int .u8) by kernel_rfl] at hval
  rename_i k n
  obtain ⟨rfl,h⟩:=hval
  have hh:=has_u8 h
  exact ⟨n.toNat,by omega,by rw [show ((n.toNat:Nat):Int)=n by omega]⟩
end Go.Proofs.Ytnckehomadnhoaa
namespace Go.Proofs.Ytnckehomadnhoaa
open Go.RowKit Go.Sort
set_option linter.unusedSimpArgs false
set_option linter.unusedVariables false
theorem bef_nat {l:List Ev} (hv:(checkB l).2=true) {i j:Nat} (hi:i < l.length) (hj:j < l.length):befO l i j=hbB l j i:=by
  rw [bef_eq]
  unfold befR
  have d3:decide ((l.length:Int)≤(i:Int))=false:=by simp;omega
  have d4:decide ((l.length:Int)≤(j:Int))=false:=by simp;omega
  rw [hv,d3,d4]
  simp
end Go.Proofs.Ytnckehomadnhoaa
namespace Go.Proofs.Ytnckehomadnhoaa
set_option linter.unusedSimpArgs false
set_option linter.unusedVariables false
theorem counted_next (s:Rs) (e:Ev):(countedB s e).next=s.next:=by
  unfold countedB;split
  · rfl
  · split <;> rfl
theorem fixW_kind (e:Ev) (w x:Wt):(fixW e w x).kind=x.kind:=by unfold fixW;split <;> rfl
theorem nx_group {s:Rs} {e:Ev} {w:Wt} {r:List Wt} (h:NxOk s) (hs:s.next=w :: r):NxOk (groupB s e w r).1:=by
  unfold groupB
  split
  · exact h
  · intro x hx
    simp only [counted_next,nextB] at hx
    obtain ⟨y,hy,rfl⟩:=List.mem_map.1 hx
    rw [fixW_kind]
    exact h y (by rw [hs];exact List.mem_cons_of_mem _ hy)
theorem nx_begin {s:Rs} {e:Ev} {nx:List Wt} (h : ∀ w ∈ nx,15≤w.kind):NxOk (beginB s e nx):=by
  intro x hx
  simp only [beginB,counted_next,openB] at hx
  exact h x hx
theorem nx_trans {s:Rs} {e:Ev} (h:NxOk s):NxOk (transB s e).1:=by
  unfold transB
  repeat' split
  all_goals first
    | exact h
    | (refine nx_begin ?_;simp)
theorem nx_other {s:Rs} {e:Ev} (h:NxOk s):NxOk (otherB s e).1:=by
  unfold otherB
  repeat' split
  all_goals exact h
theorem nx_add {s:Rs} {e:Ev} (h:NxOk s):NxOk (addB s e).1:=by
  unfold addB
  split
  · exact h
  · split
    · show NxOk (stepB s e).1
      unfold stepB
      split
      · rename_i w r hs;exact nx_group h hs
      · split
        · exact nx_trans h
        · exact nx_other h
    · exact h
theorem add_conv {s:Rs} {e:Ev} (hk:e.kind ≤ 2) (hx:s.next = []) (hn:noAdd s e=false):addB s e=(cnt1 s,true):=by
  have hst:stepB s e=(s,true):=by
    unfold stepB
    rw [hx]
    have hc:channelB e.kind=false:=by unfold channelB;simp;omega
    simp only [hc,Bool.false_eq_true,if_false]
    unfold otherB
    have:(e.kind == 6)=false∧(e.kind == 7)=false∧(e.kind == 8)=false∧(e.kind == 9)=false∧(e.kind == 12)=false∧(e.kind == 13)=false∧(e.kind == 14)=false:=by
      refine ⟨?_,?_,?_,?_,?_,?_,?_⟩ <;> (rw [beq_eq_false_iff_ne];omega)
    simp only [this,Bool.false_eq_true,if_false]
  unfold addB
  rw [hn,hst];simp
theorem go_swap (a b:Ev) (r:List Ev) (ha:a.kind ≤ 2) (hb:b.kind ≤ 2) : ∀ (p:List Ev) (s:Rs) (k:Int),NxOk s→(goB s k (p ++ a :: b :: r)).2=true→(goB s k (p ++ b :: a :: r)).2=true
  | [],s,k,h,hv=>by
    simp only [List.nil_append] at hv ⊢
    have h1:(addB s a).2=true:=by
      cases h1:(addB s a).2 with
      | true=>rfl
      | false=>rw [goB,h1] at hv;simp at hv
    rw [goB,if_pos h1] at hv
    obtain ⟨e1,e2,e3⟩:=add_plain h ha h1
    rw [e3] at hv
    have hc:NxOk (cnt1 s):=h
    have h2:(addB (cnt1 s) b).2=true:=by
      cases h2:(addB (cnt1 s) b).2 with
      | true=>rfl
      | false=>rw [goB,h2] at hv;simp at hv
    rw [goB,if_pos h2] at hv
    obtain ⟨f1,f2,f3⟩:=add_plain hc hb h2
    rw [f3] at hv
    simp only [noAdd,cnt1,Bool.or_eq_false_iff,Bool.not_eq_false',decide_eq_false_iff_not] at e2 f2
    have n1:noAdd s b=false:=by
      simp only [noAdd,Bool.or_eq_false_iff,Bool.not_eq_false',decide_eq_false_iff_not]
      exact ⟨⟨f2.1.1,e2.1.2⟩,of_decide_eq_false f2.2⟩
    have n2:noAdd (cnt1 s) a=false:=by
      simp only [noAdd,cnt1,Bool.or_eq_false_iff,Bool.not_eq_false',decide_eq_false_iff_not]
      exact ⟨⟨e2.1.1,f2.1.2⟩,decide_eq_false e2.2⟩
    rw [goB,add_conv hb e1 n1]
    simp only [if_true]
    rw [goB,add_conv ha f1 n2]
    exact hv
  | e :: p,s,k,h,hv=>by
    simp only [List.cons_append] at hv ⊢
    have h1:(addB s e).2=true:=by
      cases h1:(addB s e).2 with
      | true=>rfl
      | false=>rw [goB,h1] at hv;simp at hv
    rw [goB,if_pos h1] at hv ⊢
    exact go_swap a b r ha hb p _ _ (nx_add h) hv
def exL (l:List Ev) (k:Nat) (a b:Ev):List Ev:=(l.set k b).set (k + 1) a
theorem exL_at {l:List Ev} {k:Nat} {a b:Ev} (ha:l[k]? = some a) (hb:l[k + 1]? = some b) (q:Nat):(exL l k a b)[mvN k q]? = l[q]?:=by
  have h1:=(List.getElem?_eq_some_iff.1 ha).1
  have h2:=(List.getElem?_eq_some_iff.1 hb).1
  unfold exL mvN
  by_cases e1:q=k
  · subst e1
    rw [if_pos rfl,List.getElem?_set_self (by simpa using h2),ha]
  · rw [if_neg e1]
    by_cases e2:q=k + 1
    · subst e2
      rw [if_pos rfl,List.getElem?_set_ne (by omega),List.getElem?_set_self h1,hb]
    · rw [if_neg e2,List.getElem?_set_ne (by omega),List.getElem?_set_ne (by omega)]
theorem exL_len (l:List Ev) (k:Nat) (a b:Ev):(exL l k a b).length=l.length:=by simp [exL]
theorem exL_split {l:List Ev} {k:Nat} {a b:Ev} (ha:l[k]? = some a) (hb:l[k + 1]? = some b):l=l.take k ++ a :: b :: l.drop (k + 2)∧exL l k a b=l.take k ++ b :: a :: l.drop (k + 2):=by
  have h0:l=l.take k ++ a :: b :: l.drop (k + 2):=by
    conv=>lhs;rw [← List.take_append_drop k l]
    rw [drop_at ha,drop_at hb]
  refine ⟨h0,?_⟩
  have h1:=(List.getElem?_eq_some_iff.1 ha).1
  have hl:(l.take k).length=k:=by simp;omega
  unfold exL
  generalize l.drop (k + 2)=r at h0
  generalize l.take k=p at h0 hl
  subst h0
  subst hl
  rw [List.set_append_right _ _ (by omega)]
  simp only [Nat.sub_self,List.set_cons_zero]
  rw [List.set_append_right _ _ (by omega)]
  simp
theorem ex_valid {l:List Ev} {k:Nat} {a b:Ev} (hv:(checkB l).2=true) (ha:l[k]? = some a) (hb:l[k + 1]? = some b) (h1:a.kind ≤ 2) (h2:b.kind ≤ 2):(checkB (exL l k a b)).2=true:=by
  obtain ⟨e1,e2⟩:=exL_split ha hb
  rw [e2]
  unfold checkB at hv ⊢
  rw [e1] at hv
  exact go_swap a b _ h1 h2 _ rs0 0 (fun w hw=>by simp [rs0] at hw) hv
theorem plain_kind {l:List Ev} (hv:(checkB l).2=true) {q:Nat} {e:Ev} (he:l[q]? = some e) (h2:e.kind ≤ 2):e.kind=1∨e.kind=2:=by
  have : ∀ (r:List Ev) (s:Rs) (k:Int) (q:Nat),(goB s k r).2=true→r[q]? = some e→validB e=true:=by
    intro r
    induction r with
    | nil=>intro s k q _ h;simp at h
    | cons a r ih =>
      intro s k q hg hq
      rw [goB] at hg
      cases ha:(addB s a).2 with
      | false=>rw [ha] at hg;simp at hg
      | true =>
        rw [ha,if_pos rfl] at hg
        cases q with
        | succ q=>exact ih _ _ q hg (by simpa using hq)
        | zero =>
          simp only [List.getElem?_cons_zero,Option.some.injEq] at hq
          subst hq
          unfold addB at ha
          split at ha
          · simp at ha
          · rename_i hn
            simp only [noAdd,Bool.or_eq_true,Bool.not_eq_true'] at hn
            cases hvv:validB a with
            | true=>rfl
            | false=>exact absurd (.inl (.inl hvv)) hn
  have hvb:=this l rs0 0 q hv he
  unfold validB begsB inKind at hvb
  simp only [Bool.and_eq_true,Bool.not_eq_true',Bool.or_eq_false_iff,decide_eq_false_iff_not] at hvb
  have:=hvb.1.2
  simp at this
  omega
theorem exd_of {l:List Ev} {k:Nat} {a b:Ev} (hv:(checkB l).2=true) (ha:l[k]? = some a) (hb:l[k + 1]? = some b) (h1:a.kind ≤ 2) (h2:b.kind ≤ 2) (hg:a.g ≠ b.g) (hn : ¬ (a.obj=b.obj∧a.off=b.off∧(a.kind=2∨b.kind=2))):Exd l (exL l k a b) k a b:=⟨exL_at ha hb,ha,hb,plain_kind hv ha h1,plain_kind hv hb h2,hg,hn⟩
end Go.Proofs.Ytnckehomadnhoaa
namespace Go.Proofs.Ytnckehomadnhoaa
open Go.RowKit Go.Sort
set_option linter.unusedSimpArgs false
set_option linter.unusedVariables false
theorem nat_beq (a b:Nat):((a:Int) == (b:Int))=(a == b):=by
  rw [Bool.eq_iff_iff,beq_iff_eq,beq_iff_eq];omega
set_option maxHeartbeats 4000000 in
set_option maxRecDepth 100000 in
theorem moved_ok (i k:Nat) (hk:k ≤ 1000000):PureC Try.prog 26 [.int i,.int k] (.int (mvN k i)):=by
  have hw:=wrap_succ (show k < 1152921504606846976 by omega)
  by_cases h1:i=k
  · have d1:((i:Int) == (k:Int))=true:=by rw [nat_beq];simpa using h1
    have hr:mvN k i=k + 1:=by simp [mvN,h1]
    rw [hr]
    refine PureC.of Try.func26 rfl 16 rfl (by decide) (by simp [AV.okB]) ?_
    repeat' (first|refine T.seqK fun K hK=>?_|refine T.block ?_|(refine T.reg (by kernel_rfl) fun K' hK'=>?_;simp only [startSt,frOf,List.map_cons,List.map_nil];(repeat' (first|(with_reducible refine WL.fin ?_;refine hK' _ ?_;clear hK' K')|((with_reducible refine WL.step fun K2 hK2=>?_);simp only [simprocAttr,implies_true,amz,abin,tys,d1,hw];(repeat' (first|with_reducible (first|(refine hK2 _ ?_;clear hK2 K2)|refine And.intro ?_ ?_|intro hb) ))))))|refine T.skip ?_|refine T.exit ?_|refine T.condT rfl ?_|refine T.condF rfl ?_|refine T.cond rfl (fun hc=>?_) (fun hc=>?_)|refine T.ret ?_|simp only [ThenA,InBlock,reduceIte,Nat.reduceEqDiff]|((repeat ((fail_if_success (refine hK _ ?_));clear hK K));refine hK _ ?_;clear hK K))
    all_goals (refine FinA.ret (.inr rfl) Try.results26 ?_;simp only [ares,aresL,ares1,simprocAttr,implies_true,amz,abin,tys,])
  · have d1:((i:Int) == (k:Int))=false:=by rw [nat_beq];simpa using h1
    by_cases h2:i=k + 1
    · have d2:((i:Int) == ((k + 1:Nat):Int))=true:=by rw [nat_beq];simpa using h2
      have hr:mvN k i=k:=by simp [mvN,h2]
      rw [hr]
      refine PureC.of Try.func26 rfl 16 rfl (by decide) (by simp [AV.okB]) ?_
      repeat' (first|refine T.seqK fun K hK=>?_|refine T.block ?_|(refine T.reg (by kernel_rfl) fun K' hK'=>?_;simp only [startSt,frOf,List.map_cons,List.map_nil];(repeat' (first|(with_reducible refine WL.fin ?_;refine hK' _ ?_;clear hK' K')|((with_reducible refine WL.step fun K2 hK2=>?_);simp only [simprocAttr,implies_true,amz,abin,tys,d1,d2,hw];(repeat' (first|with_reducible (first|(refine hK2 _ ?_;clear hK2 K2)|refine And.intro ?_ ?_|intro hb) ))))))|refine T.skip ?_|refine T.exit ?_|refine T.condT rfl ?_|refine T.condF rfl ?_|refine T.cond rfl (fun hc=>?_) (fun hc=>?_)|refine T.ret ?_|simp only [ThenA,InBlock,reduceIte,Nat.reduceEqDiff]|((repeat ((fail_if_success (refine hK _ ?_));clear hK K));refine hK _ ?_;clear hK K))
      all_goals (refine FinA.ret (.inr rfl) Try.results26 ?_;simp only [ares,aresL,ares1,simprocAttr,implies_true,amz,abin,tys,])
    · have d2:((i:Int) == ((k + 1:Nat):Int))=false:=by rw [nat_beq];simpa using h2
      have hr:mvN k i=i:=by simp [mvN,h1,h2]
      rw [hr]
      refine PureC.of Try.func26 rfl 16 rfl (by decide) (by simp [AV.okB]) ?_
      repeat' (first|refine T.seqK fun K hK=>?_|refine T.block ?_|(refine T.reg (by kernel_rfl) fun K' hK'=>?_;simp only [startSt,frOf,List.map_cons,List.map_nil];(repeat' (first|(with_reducible refine WL.fin ?_;refine hK' _ ?_;clear hK' K')|((with_reducible refine WL.step fun K2 hK2=>?_);simp only [simprocAttr,implies_true,amz,abin,tys,d1,d2,hw];(repeat' (first|with_reducible (first|(refine hK2 _ ?_;clear hK2 K2)|refine And.intro ?_ ?_|intro hb) ))))))|refine T.skip ?_|refine T.exit ?_|refine T.condT rfl ?_|refine T.condF rfl ?_|refine T.cond rfl (fun hc=>?_) (fun hc=>?_)|refine T.ret ?_|simp only [ThenA,InBlock,reduceIte,Nat.reduceEqDiff]|((repeat ((fail_if_success (refine hK _ ?_));clear hK K));refine hK _ ?_;clear hK K))
      all_goals (refine FinA.ret (.inr rfl) Try.results26 ?_;simp only [ares,aresL,ares1,simprocAttr,implies_true,amz,abin,tys,])
def skipB (a b:Ev):Bool:=decide (2 < a.kind) || decide (2 < b.kind) || a.g == b.g || (a.obj == b.obj && a.off == b.off && (a.kind == 2 || b.kind == 2))
theorem map_set' (l:List Ev) (k:Nat) (b:Ev):(l.map evC).set k (evC b)=(l.set k b).map evC:=(List.map_set ..).symm
theorem mv_len {k i n:Nat} (hk:k + 1 < n) (hi:i < n):mvN k i < n:=by
  unfold mvN
  split
  · omega
  · split <;> omega
theorem any_take {α:Type} {l:List α} {k:Nat} {x : α} (h:l[k]? = some x) (p : α→Bool):(l.take (k + 1)).any p=((l.take k).any p || p x):=by
  rw [List.take_add_one,h,List.any_append];simp
def fndB (B:List (Nat × Nat)) (z:Nat × Nat) (j:Nat):Bool:=(B.take j).any fun y=>y.1 == z.1 && y.2 == z.2
set_option maxHeartbeats 16000000 in
set_option maxRecDepth 100000 in
theorem lawExchange_ok (l:List Ev) (k:Nat) (h256:k < 256):PureC Try.prog 10 [.p (.seq 9 (l.map evC)),.p (.val (.int .u8 (k:Int)))] (.bool true):=by
  have hw:=awake_ok
  have hlm:(l.map evC).length=l.length:=by simp
  have hxw:IntKind.i64.wrap (k:Int)=(k:Int):=wrap_ok (by omega) (by omega)
  have hk1:=wrap_succ (show k < 1152921504606846976 by omega)
  by_cases hn:l.length ≤ 16
  case neg =>
    have hg:decide ((16:Int) < (l.length:Int))=true:=by simp;omega
    refine PureC.of Try.func10 rfl 174 rfl (by decide) (by simp [AV.okB]) ?_
    repeat' (first|refine T.seqK fun K hK=>?_|refine T.block ?_|(refine T.reg (by kernel_rfl) fun K' hK'=>?_;simp only [startSt,frOf,List.map_cons,List.map_nil];(repeat' (first|(with_reducible refine WL.fin ?_;refine hK' _ ?_;clear hK' K')|((with_reducible refine WL.step fun K2 hK2=>?_);simp only [simprocAttr,implies_true,amz,abin,tys,hlm,hg,hxw,Option.isSome_some];(repeat' (first|with_reducible (first|(refine hK2 _ ?_;clear hK2 K2)|refine And.intro ?_ ?_|intro hb)|((first|(with_reducible apply callArmO)|(with_reducible apply callArm));case h=>exact CallV.plain (Ent.of Try.func12 (by kernel_rfl) rfl) (hw) (by simp [AV.okB]))))))))|refine T.skip ?_|refine T.exit ?_|refine T.condT rfl ?_|refine T.condF rfl ?_|refine T.cond rfl (fun hc=>?_) (fun hc=>?_)|refine T.ret ?_|simp only [ThenA,InBlock,reduceIte,Nat.reduceEqDiff]|((repeat ((fail_if_success (refine hK _ ?_));clear hK K));refine hK _ ?_;clear hK K))
    all_goals (refine FinA.ret (.inr rfl) Try.results10 ?_;simp only [ares,aresL,ares1,simprocAttr,implies_true,amz,abin,tys,])
  have hg:decide ((16:Int) < (l.length:Int))=false:=by simp;omega
  have hv:=validT_ok l (by omega)
  by_cases hkn:k + 1 < l.length
  case neg =>
    have hg1:decide ((l.length:Int)≤((k + 1:Nat):Int))=true:=by simp;omega
    refine PureC.of Try.func10 rfl 174 rfl (by decide) (by simp [AV.okB]) ?_
    repeat' (first|refine T.seqK fun K hK=>?_|refine T.block ?_|(refine T.reg (by kernel_rfl) fun K' hK'=>?_;simp only [startSt,frOf,List.map_cons,List.map_nil];(repeat' (first|(with_reducible refine WL.fin ?_;refine hK' _ ?_;clear hK' K')|((with_reducible refine WL.step fun K2 hK2=>?_);simp only [simprocAttr,implies_true,amz,abin,tys,hlm,hg,hg1,hxw,hk1,Option.isSome_some];(repeat' (first|with_reducible (first|(refine hK2 _ ?_;clear hK2 K2)|refine And.intro ?_ ?_|intro hb)|((first|(with_reducible apply callArmO)|(with_reducible apply callArm));case h=>exact CallV.plain (Ent.of Try.func12 (by kernel_rfl) rfl) (hw) (by simp [AV.okB]))))))))|refine T.skip ?_|refine T.exit ?_|refine T.condT rfl ?_|refine T.condF rfl ?_|refine T.cond rfl (fun hc=>?_) (fun hc=>?_)|refine T.ret ?_|simp only [ThenA,InBlock,reduceIte,Nat.reduceEqDiff]|((repeat ((fail_if_success (refine hK _ ?_));clear hK K));refine hK _ ?_;clear hK K))
    all_goals (refine FinA.ret (.inr rfl) Try.results10 ?_;simp only [ares,aresL,ares1,simprocAttr,implies_true,amz,abin,tys,])
  have hg1:decide ((l.length:Int)≤((k + 1:Nat):Int))=false:=by simp;omega
  cases h5:(checkB l).2 with
  | false =>
    rw [h5] at hv
    refine PureC.of Try.func10 rfl 174 rfl (by decide) (by simp [AV.okB]) ?_
    repeat' (first|refine T.seqK fun K hK=>?_|refine T.block ?_|(refine T.reg (by kernel_rfl) fun K' hK'=>?_;simp only [startSt,frOf,List.map_cons,List.map_nil];(repeat' (first|(with_reducible refine WL.fin ?_;refine hK' _ ?_;clear hK' K')|((with_reducible refine WL.step fun K2 hK2=>?_);simp only [simprocAttr,implies_true,amz,abin,tys,hlm,hg,hg1,hxw,hk1,Option.isSome_some];(repeat' (first|with_reducible (first|(refine hK2 _ ?_;clear hK2 K2)|refine And.intro ?_ ?_|intro hb)|((first|(with_reducible apply callArmO)|(with_reducible apply callArm));case h=>exact CallV.plain (Ent.of Try.func12 (by kernel_rfl) rfl) (hw) (by simp [AV.okB]))|((first|(with_reducible apply callArmO)|(with_reducible apply callArm));case h=>exact CallV.plain (Ent.of Try.func18 (by kernel_rfl) rfl) (hv) (by simp [AV.okB]))))))))|refine T.skip ?_|refine T.exit ?_|refine T.condT rfl ?_|refine T.condF rfl ?_|refine T.cond rfl (fun hc=>?_) (fun hc=>?_)|refine T.ret ?_|simp only [ThenA,InBlock,reduceIte,Nat.reduceEqDiff]|((repeat ((fail_if_success (refine hK _ ?_));clear hK K));refine hK _ ?_;clear hK K))
    all_goals (refine FinA.ret (.inr rfl) Try.results10 ?_;simp only [ares,aresL,ares1,simprocAttr,implies_true,amz,abin,tys,])
  | true =>
  rw [h5] at hv
  obtain ⟨a,ha⟩:=at_lt (show k < l.length by omega)
  obtain ⟨b,hb⟩:=at_lt hkn
  have hk0:(0:Int)≤(k:Int):=by omega
  have hk10:(0:Int)≤((k + 1:Nat):Int):=by omega
  refine PureC.of Try.func10 rfl 174 rfl (by decide) (by simp [AV.okB]) ?_
  repeat' (first|refine T.seqK fun K hK=>?_|refine T.block ?_|refine T.skip ?_|refine T.exit ?_|refine T.condT rfl ?_|refine T.condF rfl ?_|refine T.cond rfl (fun hc=>?_) (fun hc=>?_)|refine T.ret ?_|simp only [ThenA,InBlock,reduceIte,Nat.reduceEqDiff]|((repeat ((fail_if_success (refine hK _ ?_));clear hK K));refine hK _ ?_;clear hK K))
  (refine T.reg (by kernel_rfl) fun K' hK'=>?_;simp only [startSt,frOf,List.map_cons,List.map_nil];(repeat' (first|(with_reducible refine WL.fin ?_;refine hK' _ ?_;clear hK' K')|((with_reducible refine WL.step fun K2 hK2=>?_);simp only [simprocAttr,implies_true,amz,abin,tys];(repeat' (first|with_reducible (first|(refine hK2 _ ?_;clear hK2 K2)|refine And.intro ?_ ?_|intro hb) )))));all_goals ((try simp only [ThenA,InBlock,reduceIte,Nat.reduceEqDiff]);(try ((repeat ((fail_if_success (refine hK _ ?_));clear hK K));refine hK _ ?_;clear hK K))))
  repeat' (first|refine T.seqK fun K hK=>?_|refine T.block ?_|refine T.skip ?_|refine T.exit ?_|refine T.condT rfl ?_|refine T.condF rfl ?_|refine T.cond rfl (fun hc=>?_) (fun hc=>?_)|refine T.ret ?_|simp only [ThenA,InBlock,reduceIte,Nat.reduceEqDiff]|((repeat ((fail_if_success (refine hK _ ?_));clear hK K));refine hK _ ?_;clear hK K))
  (refine T.reg (by kernel_rfl) fun K' hK'=>?_;simp only [startSt,frOf,List.map_cons,List.map_nil];(repeat' (first|(with_reducible refine WL.fin ?_;refine hK' _ ?_;clear hK' K')|((with_reducible refine WL.step fun K2 hK2=>?_);simp only [simprocAttr,implies_true,amz,abin,tys,hlm];(repeat' (first|with_reducible (first|(refine hK2 _ ?_;clear hK2 K2)|refine And.intro ?_ ?_|intro hb)|((first|(with_reducible apply callArmO)|(with_reducible apply callArm));case h=>exact CallV.plain (Ent.of Try.func12 (by kernel_rfl) rfl) (hw) (by simp [AV.okB])))))));all_goals ((try simp only [ThenA,InBlock,reduceIte,Nat.reduceEqDiff]);(try ((repeat ((fail_if_success (refine hK _ ?_));clear hK K));refine hK _ ?_;clear hK K))))
  repeat' (first|refine T.seqK fun K hK=>?_|refine T.block ?_|refine T.skip ?_|refine T.exit ?_|refine T.condT rfl ?_|refine T.condF rfl ?_|refine T.cond rfl (fun hc=>?_) (fun hc=>?_)|refine T.ret ?_|simp only [ThenA,InBlock,reduceIte,Nat.reduceEqDiff]|((repeat ((fail_if_success (refine hK _ ?_));clear hK K));refine hK _ ?_;clear hK K))
  (refine T.reg (by kernel_rfl) fun K' hK'=>?_;simp only [startSt,frOf,List.map_cons,List.map_nil];(repeat' (first|(with_reducible refine WL.fin ?_;refine hK' _ ?_;clear hK' K')|((with_reducible refine WL.step fun K2 hK2=>?_);simp only [simprocAttr,implies_true,amz,abin,tys,hlm,hxw,Option.isSome_some];(repeat' (first|with_reducible (first|(refine hK2 _ ?_;clear hK2 K2)|refine And.intro ?_ ?_|intro hb) )))));all_goals ((try simp only [ThenA,InBlock,reduceIte,Nat.reduceEqDiff]);(try ((repeat ((fail_if_success (refine hK _ ?_));clear hK K));refine hK _ ?_;clear hK K))))
  repeat' (first|refine T.seqK fun K hK=>?_|refine T.block ?_|refine T.skip ?_|refine T.exit ?_|refine T.condT rfl ?_|refine T.condF rfl ?_|refine T.cond rfl (fun hc=>?_) (fun hc=>?_)|refine T.ret ?_|simp only [ThenA,InBlock,reduceIte,Nat.reduceEqDiff]|((repeat ((fail_if_success (refine hK _ ?_));clear hK K));refine hK _ ?_;clear hK K))
  (refine T.reg (by kernel_rfl) fun K' hK'=>?_;simp only [startSt,frOf,List.map_cons,List.map_nil];(repeat' (first|(with_reducible refine WL.fin ?_;refine hK' _ ?_;clear hK' K')|((with_reducible refine WL.step fun K2 hK2=>?_);simp only [simprocAttr,implies_true,amz,abin,tys,hlm,hg,hg1,hxw,hk1,Option.isSome_some];(repeat' (first|with_reducible (first|(refine hK2 _ ?_;clear hK2 K2)|refine And.intro ?_ ?_|intro hb)|((first|(with_reducible apply callArmO)|(with_reducible apply callArm));case h=>exact CallV.plain (Ent.of Try.func18 (by kernel_rfl) rfl) (hv) (by simp [AV.okB])))))));all_goals ((try simp only [ThenA,InBlock,reduceIte,Nat.reduceEqDiff]);(try ((repeat ((fail_if_success (refine hK _ ?_));clear hK K));refine hK _ ?_;clear hK K))))
  repeat' (first|refine T.seqK fun K hK=>?_|refine T.block ?_|refine T.skip ?_|refine T.exit ?_|refine T.condT rfl ?_|refine T.condF rfl ?_|refine T.cond rfl (fun hc=>?_) (fun hc=>?_)|refine T.ret ?_|simp only [ThenA,InBlock,reduceIte,Nat.reduceEqDiff]|((repeat ((fail_if_success (refine hK _ ?_));clear hK K));refine hK _ ?_;clear hK K))
  (refine T.reg (by kernel_rfl) fun K' hK'=>?_;simp only [startSt,frOf,List.map_cons,List.map_nil];(repeat' (first|(with_reducible refine WL.fin ?_;refine hK' _ ?_;clear hK' K')|((with_reducible refine WL.step fun K2 hK2=>?_);simp only [simprocAttr,implies_true,amz,abin,tys,ha,evC,Int.toNat_natCast,hk0];(repeat' (first|with_reducible (first|(refine hK2 _ ?_;clear hK2 K2)|refine And.intro ?_ ?_|intro hb) )))));all_goals ((try simp only [ThenA,InBlock,reduceIte,Nat.reduceEqDiff]);(try ((repeat ((fail_if_success (refine hK _ ?_));clear hK K));refine hK _ ?_;clear hK K))))
  repeat' (first|refine T.seqK fun K hK=>?_|refine T.block ?_|refine T.skip ?_|refine T.exit ?_|refine T.condT rfl ?_|refine T.condF rfl ?_|refine T.cond rfl (fun hc=>?_) (fun hc=>?_)|refine T.ret ?_|simp only [ThenA,InBlock,reduceIte,Nat.reduceEqDiff]|((repeat ((fail_if_success (refine hK _ ?_));clear hK K));refine hK _ ?_;clear hK K))
  (refine T.reg (by kernel_rfl) fun K' hK'=>?_;simp only [startSt,frOf,List.map_cons,List.map_nil];(repeat' (first|(with_reducible refine WL.fin ?_;refine hK' _ ?_;clear hK' K')|((with_reducible refine WL.step fun K2 hK2=>?_);simp only [simprocAttr,implies_true,amz,abin,tys,hb,evC,hk1,Int.toNat_natCast,hk10];(repeat' (first|with_reducible (first|(refine hK2 _ ?_;clear hK2 K2)|refine And.intro ?_ ?_|intro hb) )))));all_goals ((try simp only [ThenA,InBlock,reduceIte,Nat.reduceEqDiff]);(try ((repeat ((fail_if_success (refine hK _ ?_));clear hK K));refine hK _ ?_;clear hK K))))
  repeat' (first|refine T.seqK fun K hK=>?_|refine T.block ?_|refine T.skip ?_|refine T.exit ?_|refine T.condT rfl ?_|refine T.condF rfl ?_|refine T.cond rfl (fun hc=>?_) (fun hc=>?_)|refine T.ret ?_|simp only [ThenA,InBlock,reduceIte,Nat.reduceEqDiff]|((repeat ((fail_if_success (refine hK _ ?_));clear hK K));refine hK _ ?_;clear hK K))
  suffices hmid : ∀ s',Weak s' ⟨[(0,.p (.seq 9 (l.map evC))),(5,.int k),(6,.ptr 0 0),(7,.ptr 1 0),(82,.bool (skipB a b))],[(1,.boxP none 44 ((evC b).map .p)),(0,.boxP none 44 ((evC a).map .p))],174,2⟩→K s' by
    clear hK
    have hK:=hmid
    clear hmid
    (refine T.reg (by kernel_rfl) fun K' hK'=>?_;simp only [startSt,frOf,List.map_cons,List.map_nil];(repeat' (first|(with_reducible refine WL.fin ?_;refine hK' _ ?_;clear hK' K')|((with_reducible refine WL.step fun K2 hK2=>?_);simp only [simprocAttr,implies_true,amz,abin,tys,evC];(repeat' (first|with_reducible (first|(refine hK2 _ ?_;clear hK2 K2)|refine And.intro ?_ ?_|intro hb) )))));all_goals ((try simp only [ThenA,InBlock,reduceIte,Nat.reduceEqDiff]);(try ((repeat ((fail_if_success (refine hK _ ?_));clear hK K));refine hK _ ?_;clear hK K))))
    all_goals (refine Weak.of' rfl ?_;simp only [wks,reduceIte,Nat.reduceEqDiff,ASt.okB,AV.okB,Nat.reduceLT,implies_true,evC,List.map_cons,List.map_nil])
    all_goals (unfold skipB;simp only [*];try rfl)
  intro s' hw'
  refine hK s' ?_
  refine T.weak hw' ?_
  clear hK hw' s'
  cases hs:skipB a b with
  | true =>
    repeat' (first|refine T.seqK fun K hK=>?_|refine T.block ?_|(refine T.reg (by kernel_rfl) fun K' hK'=>?_;simp only [startSt,frOf,List.map_cons,List.map_nil];(repeat' (first|(with_reducible refine WL.fin ?_;refine hK' _ ?_;clear hK' K')|((with_reducible refine WL.step fun K2 hK2=>?_);simp only [simprocAttr,implies_true,amz,abin,tys];(repeat' (first|with_reducible (first|(refine hK2 _ ?_;clear hK2 K2)|refine And.intro ?_ ?_|intro hb) ))))))|refine T.skip ?_|refine T.exit ?_|refine T.condT rfl ?_|refine T.condF rfl ?_|refine T.cond rfl (fun hc=>?_) (fun hc=>?_)|refine T.ret ?_|simp only [ThenA,InBlock,reduceIte,Nat.reduceEqDiff]|((repeat ((fail_if_success (refine hK _ ?_));clear hK K));refine hK _ ?_;clear hK K))
    all_goals (refine FinA.ret (.inr rfl) Try.results10 ?_;simp only [ares,aresL,ares1,simprocAttr,implies_true,amz,abin,tys,])
  | false =>
  have hx:Exd l (exL l k a b) k a b:=by
    unfold skipB at hs
    simp only [Bool.or_eq_false_iff,decide_eq_false_iff_not,beq_eq_false_iff_ne,Bool.and_eq_false_iff] at hs
    refine exd_of h5 ha hb (by omega) (by omega) hs.1.2 ?_
    rintro ⟨e1,e2,e3⟩
    rcases hs.2 with (h|h)|⟨h1,h2⟩
    · exact h e1
    · exact h e2
    · rcases e3 with e|e
      · exact h1 e
      · exact h2 e
  have hml:(exL l k a b).length=l.length:=exL_len l k a b
  have hxv:(checkB (exL l k a b)).2=true:=by
    unfold skipB at hs
    simp only [Bool.or_eq_false_iff,decide_eq_false_iff_not] at hs
    exact ex_valid h5 ha hb (by omega) (by omega)
  have hv2:=validT_ok (exL l k a b) (by omega)
  rw [hxv] at hv2
  have hm0:l.length≤maxLen:=by unfold maxLen;omega
  have hm1:l.length * 72 ≤ 140737488355328:=by omega
  have hkl:k < l.length:=by omega
  have hs1:=map_set' l k b
  have hs2:=map_set' (l.set k b) (k + 1) a
  rw [show (l.set k b).set (k + 1) a=exL l k a b from rfl] at hs2
  have ha' : ((l.map evC)[k]?)=some (evC a):=by rw [List.getElem?_map,ha];rfl
  have hb' : (((l.set k b).map evC)[k + 1]?)=some (evC b):=by rw [List.getElem?_map,List.getElem?_set_ne (by omega),hb];rfl
  have hlm2:((l.set k b).map evC).length=l.length:=by simp
  simp only [evC,List.map_cons,List.map_nil] at ha' hb' hs1 hs2 ⊢
  repeat' (first|refine T.seqK fun K hK=>?_|refine T.block ?_|refine T.skip ?_|refine T.exit ?_|refine T.condT rfl ?_|refine T.condF rfl ?_|refine T.cond rfl (fun hc=>?_) (fun hc=>?_)|refine T.ret ?_|simp only [ThenA,InBlock,reduceIte,Nat.reduceEqDiff]|((repeat ((fail_if_success (refine hK _ ?_));clear hK K));refine hK _ ?_;clear hK K))
  (refine T.reg (by kernel_rfl) fun K' hK'=>?_;simp only [startSt,frOf,List.map_cons,List.map_nil];(repeat' (first|(with_reducible refine WL.fin ?_;refine hK' _ ?_;clear hK' K')|((with_reducible refine WL.step fun K2 hK2=>?_);simp only [simprocAttr,implies_true,amz,abin,tys,hlm,hm0,hm1,List.nil_append,List.length_nil,Nat.zero_add];(repeat' (first|with_reducible (first|(refine hK2 _ ?_;clear hK2 K2)|refine And.intro ?_ ?_|intro hb) )))));all_goals ((try simp only [ThenA,InBlock,reduceIte,Nat.reduceEqDiff]);(try ((repeat ((fail_if_success (refine hK _ ?_));clear hK K));refine hK _ ?_;clear hK K))))
  repeat' (first|refine T.seqK fun K hK=>?_|refine T.block ?_|refine T.skip ?_|refine T.exit ?_|refine T.condT rfl ?_|refine T.condF rfl ?_|refine T.cond rfl (fun hc=>?_) (fun hc=>?_)|refine T.ret ?_|simp only [ThenA,InBlock,reduceIte,Nat.reduceEqDiff]|((repeat ((fail_if_success (refine hK _ ?_));clear hK K));refine hK _ ?_;clear hK K))
  (refine T.reg (by kernel_rfl) fun K' hK'=>?_;simp only [startSt,frOf,List.map_cons,List.map_nil];(repeat' (first|(with_reducible refine WL.fin ?_;refine hK' _ ?_;clear hK' K')|((with_reducible refine WL.step fun K2 hK2=>?_);simp only [simprocAttr,implies_true,amz,abin,tys,hlm,hkl,hk0,Int.toNat_natCast,Nat.mul_one,Nat.zero_add,ha',hs1];(repeat' (first|with_reducible (first|(refine hK2 _ ?_;clear hK2 K2)|refine And.intro ?_ ?_|intro hb) )))));all_goals ((try simp only [ThenA,InBlock,reduceIte,Nat.reduceEqDiff]);(try ((repeat ((fail_if_success (refine hK _ ?_));clear hK K));refine hK _ ?_;clear hK K))))
  repeat' (first|refine T.seqK fun K hK=>?_|refine T.block ?_|refine T.skip ?_|refine T.exit ?_|refine T.condT rfl ?_|refine T.condF rfl ?_|refine T.cond rfl (fun hc=>?_) (fun hc=>?_)|refine T.ret ?_|simp only [ThenA,InBlock,reduceIte,Nat.reduceEqDiff]|((repeat ((fail_if_success (refine hK _ ?_));clear hK K));refine hK _ ?_;clear hK K))
  (refine T.reg (by kernel_rfl) fun K' hK'=>?_;simp only [startSt,frOf,List.map_cons,List.map_nil];(repeat' (first|(with_reducible refine WL.fin ?_;refine hK' _ ?_;clear hK' K')|((with_reducible refine WL.step fun K2 hK2=>?_);simp only [simprocAttr,implies_true,amz,abin,tys,hk1,hlm2,hkn,hk10,Int.toNat_natCast,Nat.mul_one,Nat.zero_add,hb',hs2];(repeat' (first|with_reducible (first|(refine hK2 _ ?_;clear hK2 K2)|refine And.intro ?_ ?_|intro hb) )))));all_goals ((try simp only [ThenA,InBlock,reduceIte,Nat.reduceEqDiff]);(try ((repeat ((fail_if_success (refine hK _ ?_));clear hK K));refine hK _ ?_;clear hK K))))
  repeat' (first|refine T.seqK fun K hK=>?_|refine T.block ?_|refine T.skip ?_|refine T.exit ?_|refine T.condT rfl ?_|refine T.condF rfl ?_|refine T.cond rfl (fun hc=>?_) (fun hc=>?_)|refine T.ret ?_|simp only [ThenA,InBlock,reduceIte,Nat.reduceEqDiff]|((repeat ((fail_if_success (refine hK _ ?_));clear hK K));refine hK _ ?_;clear hK K))
  refine T.weak (s':=⟨[(0,.p (.seq 9 (l.map evC))),(5,.int k),(8,.own 2)],[(2,.row 44 9 ((exL l k a b).map evC))],174,3⟩) (by refine Weak.of' rfl ?_;simp only [wks,reduceIte,Nat.reduceEqDiff,ASt.okB,AV.okB,Nat.reduceLT,implies_true,]) ?_
  refine T.weak (Weak.frz _ 2) ?_;simp only [ASt.frz,List.filter_cons,List.filter_nil,bne_self_eq_false,Nat.reduceBneDiff,Bool.false_eq_true,simprocAttr,implies_true,amz,abin,]
  obtain ⟨m,hm⟩ : ∃ m,m=exL l k a b:=⟨_,rfl⟩
  rw [← hm] at hx hml hxv hv2 ⊢
  have hb1:=fun a b=>before_ok l (by omega) a b
  have hb2:=fun a b=>before_ok m (by omega) a b
  have hra:=races_ok l (by omega)
  have hrb:=races_ok m (by omega)
  have hAl:(racesO l).length ≤ 1000000000000:=by rw [races_eq];exact racesR_len (by omega)
  have hlen:=hx.len hml h5 hxv
  have hin : ∀ x ∈ racesO l,mvP k x ∈ racesO m:=fun x h=>hx.race hml h5 hxv h
  have hhb:=fun i j=>hx.hb' i j
  have hmvl : ∀ {i:Nat},i < l.length→mvN k i < l.length:=fun h=>mv_len hkn h
  generalize racesO l=A at hra hAl hlen hin
  generalize racesO m=B at hrb hlen hin
  have hxv2:=hxv
  clear hx hxv hm hs1 hs2 ha' hb' hlm2
  repeat' (first|refine T.seqK fun K hK=>?_|refine T.block ?_|refine T.skip ?_|refine T.exit ?_|refine T.condT rfl ?_|refine T.condF rfl ?_|refine T.cond rfl (fun hc=>?_) (fun hc=>?_)|refine T.ret ?_|simp only [ThenA,InBlock,reduceIte,Nat.reduceEqDiff]|((repeat ((fail_if_success (refine hK _ ?_));clear hK K));refine hK _ ?_;clear hK K))
  (refine T.reg (by kernel_rfl) fun K' hK'=>?_;simp only [startSt,frOf,List.map_cons,List.map_nil];(repeat' (first|(with_reducible refine WL.fin ?_;refine hK' _ ?_;clear hK' K')|((with_reducible refine WL.step fun K2 hK2=>?_);simp only [simprocAttr,implies_true,amz,abin,tys,Bool.not_true];(repeat' (first|with_reducible (first|(refine hK2 _ ?_;clear hK2 K2)|refine And.intro ?_ ?_|intro hb)|((first|(with_reducible apply callArmO)|(with_reducible apply callArm));case h=>exact CallV.plain (Ent.of Try.func18 (by kernel_rfl) rfl) (hv2) (by simp [AV.okB])))))));all_goals ((try simp only [ThenA,InBlock,reduceIte,Nat.reduceEqDiff]);(try ((repeat ((fail_if_success (refine hK _ ?_));clear hK K));refine hK _ ?_;clear hK K))))
  repeat' (first|refine T.seqK fun K hK=>?_|refine T.block ?_|refine T.skip ?_|refine T.exit ?_|refine T.condT rfl ?_|refine T.condF rfl ?_|refine T.cond rfl (fun hc=>?_) (fun hc=>?_)|refine T.ret ?_|simp only [ThenA,InBlock,reduceIte,Nat.reduceEqDiff]|((repeat ((fail_if_success (refine hK _ ?_));clear hK K));refine hK _ ?_;clear hK K))
  (refine T.reg (by kernel_rfl) fun K' hK'=>?_;simp only [startSt,frOf,List.map_cons,List.map_nil];(repeat' (first|(with_reducible refine WL.fin ?_;refine hK' _ ?_;clear hK' K')|((with_reducible refine WL.step fun K2 hK2=>?_);simp only [simprocAttr,implies_true,amz,abin,tys];(repeat' (first|with_reducible (first|(refine hK2 _ ?_;clear hK2 K2)|refine And.intro ?_ ?_|intro hb) )))));all_goals ((try simp only [ThenA,InBlock,reduceIte,Nat.reduceEqDiff]);(try ((repeat ((fail_if_success (refine hK _ ?_));clear hK K));refine hK _ ?_;clear hK K))))
  repeat' (first|refine T.seqK fun K hK=>?_|refine T.block ?_|refine T.skip ?_|refine T.exit ?_|refine T.condT rfl ?_|refine T.condF rfl ?_|refine T.cond rfl (fun hc=>?_) (fun hc=>?_)|refine T.ret ?_|simp only [ThenA,InBlock,reduceIte,Nat.reduceEqDiff]|((repeat ((fail_if_success (refine hK _ ?_));clear hK K));refine hK _ ?_;clear hK K))
  refine T.loopK (fun i:Nat=>⟨[(0,.p (.seq 9 (l.map evC))),(5,.int k),(8,.p (.seq 9 (m.map evC))),(9,.int i)],[],174,3⟩) (fun i=>i≤l.length) (fun i=>l.length - i) 0 (Nat.zero_le _) (by refine Weak.of' rfl ?_;simp only [wks,reduceIte,Nat.reduceEqDiff,ASt.okB,AV.okB,Nat.reduceLT,implies_true,Int.natCast_zero]) ?_
  intro i hi KL hKL
  by_cases hin1:i < l.length
  · have hd:decide ((i:Int) < (l.length:Int))=true:=by simpa using hin1
    have m1:=moved_ok i k (by omega)
    repeat' (first|refine T.seqK fun K hK=>?_|refine T.block ?_|(refine T.reg (by kernel_rfl) fun K' hK'=>?_;simp only [startSt,frOf,List.map_cons,List.map_nil];(repeat' (first|(with_reducible refine WL.fin ?_;refine hK' _ ?_;clear hK' K')|((with_reducible refine WL.step fun K2 hK2=>?_);simp only [simprocAttr,implies_true,amz,abin,tys,hlm,hd];(repeat' (first|with_reducible (first|(refine hK2 _ ?_;clear hK2 K2)|refine And.intro ?_ ?_|intro hb) ))))))|refine T.skip ?_|refine T.exit ?_|refine T.condT rfl ?_|refine T.condF rfl ?_|refine T.cond rfl (fun hc=>?_) (fun hc=>?_)|refine T.ret ?_|simp only [ThenA,InBlock,reduceIte,Nat.reduceEqDiff]|((repeat ((fail_if_success (refine hK _ ?_));clear hK K));refine hK _ ?_;clear hK K))
    refine T.loopK (fun j:Nat=>⟨[(0,.p (.seq 9 (l.map evC))),(5,.int k),(8,.p (.seq 9 (m.map evC))),(9,.int i),(10,.int j)],[],174,3⟩) (fun j=>j≤l.length) (fun j=>l.length - j) 0 (Nat.zero_le _) (by refine Weak.of' rfl ?_;simp only [wks,reduceIte,Nat.reduceEqDiff,ASt.okB,AV.okB,Nat.reduceLT,implies_true,Int.natCast_zero]) ?_
    intro j hj KL2 hKL2
    by_cases hjn:j < l.length
    · have hd2:decide ((j:Int) < (l.length:Int))=true:=by simpa using hjn
      have m2:=moved_ok j k (by omega)
      have q1:=hb1 i j
      rw [bef_nat h5 hin1 hjn] at q1
      have q2:=hb2 (mvN k i:Nat) (mvN k j:Nat)
      rw [bef_nat hxv2 (by rw [hml];exact hmvl hin1) (by rw [hml];exact hmvl hjn),hhb] at q2
      repeat' (first|refine T.seqK fun K hK=>?_|refine T.block ?_|(refine T.reg (by kernel_rfl) fun K' hK'=>?_;simp only [startSt,frOf,List.map_cons,List.map_nil];(repeat' (first|(with_reducible refine WL.fin ?_;refine hK' _ ?_;clear hK' K')|((with_reducible refine WL.step fun K2 hK2=>?_);simp only [simprocAttr,implies_true,amz,abin,tys,hlm,hd2,beq_self_eq_true,Bool.not_true];(repeat' (first|with_reducible (first|(refine hK2 _ ?_;clear hK2 K2)|refine And.intro ?_ ?_|intro hb)|((first|(with_reducible apply callArmO)|(with_reducible apply callArm));case h=>exact CallV.plain (Ent.of Try.func16 (by kernel_rfl) rfl) (q1) (by simp [AV.okB]))|((first|(with_reducible apply callArmO)|(with_reducible apply callArm));case h=>exact CallV.plain (Ent.of Try.func16 (by kernel_rfl) rfl) (q2) (by simp [AV.okB]))|((first|(with_reducible apply callArmO)|(with_reducible apply callArm));case h=>exact CallV.plain (Ent.of Try.func26 (by kernel_rfl) rfl) (m1) (by simp [AV.okB]))|((first|(with_reducible apply callArmO)|(with_reducible apply callArm));case h=>exact CallV.plain (Ent.of Try.func26 (by kernel_rfl) rfl) (m2) (by simp [AV.okB]))))))))|refine T.skip ?_|refine T.exit ?_|refine T.condT rfl ?_|refine T.condF rfl ?_|refine T.cond rfl (fun hc=>?_) (fun hc=>?_)|refine T.ret ?_|simp only [ThenA,InBlock,reduceIte,Nat.reduceEqDiff]|((repeat ((fail_if_success (refine hK _ ?_));clear hK K));refine hK _ ?_;clear hK K))
      refine hKL2 _ (j + 1) ?_ (by omega) (by omega)
      refine Weak.of' rfl ?_;simp only [wks,reduceIte,Nat.reduceEqDiff,ASt.okB,AV.okB,Nat.reduceLT,implies_true,wrap_succ (show j < 1152921504606846976 by omega)]
    · have hd2:decide ((j:Int) < (l.length:Int))=false:=by simpa using hjn
      repeat' (first|refine T.seqK fun K hK=>?_|refine T.block ?_|(refine T.reg (by kernel_rfl) fun K' hK'=>?_;simp only [startSt,frOf,List.map_cons,List.map_nil];(repeat' (first|(with_reducible refine WL.fin ?_;refine hK' _ ?_;clear hK' K')|((with_reducible refine WL.step fun K2 hK2=>?_);simp only [simprocAttr,implies_true,amz,abin,tys,hlm,hd2];(repeat' (first|with_reducible (first|(refine hK2 _ ?_;clear hK2 K2)|refine And.intro ?_ ?_|intro hb) ))))))|refine T.skip ?_|refine T.exit ?_|refine T.condT rfl ?_|refine T.condF rfl ?_|refine T.cond rfl (fun hc=>?_) (fun hc=>?_)|refine T.ret ?_|simp only [ThenA,InBlock,reduceIte,Nat.reduceEqDiff]|((repeat ((fail_if_success (refine hK _ ?_));clear hK K));refine hK _ ?_;clear hK K))
      refine hKL _ (i + 1) ?_ (by omega) (by omega)
      refine Weak.of' rfl ?_;simp only [wks,reduceIte,Nat.reduceEqDiff,ASt.okB,AV.okB,Nat.reduceLT,implies_true,wrap_succ (show i < 1152921504606846976 by omega)]
  · have hd:decide ((i:Int) < (l.length:Int))=false:=by simpa using hin1
    repeat' (first|refine T.seqK fun K hK=>?_|refine T.block ?_|(refine T.reg (by kernel_rfl) fun K' hK'=>?_;simp only [startSt,frOf,List.map_cons,List.map_nil];(repeat' (first|(with_reducible refine WL.fin ?_;refine hK' _ ?_;clear hK' K')|((with_reducible refine WL.step fun K2 hK2=>?_);simp only [simprocAttr,implies_true,amz,abin,tys,hlm,hd];(repeat' (first|with_reducible (first|(refine hK2 _ ?_;clear hK2 K2)|refine And.intro ?_ ?_|intro hb)|((first|(with_reducible apply callArmO)|(with_reducible apply callArm));case h=>exact CallV.plain (Ent.of Try.func24 (by kernel_rfl) rfl) (hra) (by simp [AV.okB]))|((first|(with_reducible apply callArmO)|(with_reducible apply callArm));case h=>exact CallV.plain (Ent.of Try.func24 (by kernel_rfl) rfl) (hrb) (by simp [AV.okB]))))))))|refine T.skip ?_|refine T.exit ?_|refine T.condT rfl ?_|refine T.condF rfl ?_|refine T.cond rfl (fun hc=>?_) (fun hc=>?_)|refine T.ret ?_|simp only [ThenA,InBlock,reduceIte,Nat.reduceEqDiff]|((repeat ((fail_if_success (refine hK _ ?_));clear hK K));refine hK _ ?_;clear hK K))
    refine T.loopK (fun i:Nat=>⟨[(0,.p (.seq 9 (l.map evC))),(5,.int k),(11,.p (.seq 2 (rowQ A))),(12,.p (.seq 2 (rowQ B))),(13,.int i)],[],174,3⟩) (fun i=>i≤A.length) (fun i=>A.length - i) 0 (Nat.zero_le _) (by refine Weak.of' rfl ?_;simp only [wks,reduceIte,Nat.reduceEqDiff,ASt.okB,AV.okB,Nat.reduceLT,implies_true,Int.natCast_zero]) ?_
    intro i hi KL2 hKL2
    by_cases hia:i < A.length
    · have hd2:decide ((i:Int) < (A.length:Int))=true:=by simpa using hia
      have hi0:(0:Int)≤(i:Int):=by omega
      obtain ⟨x,hxA⟩:=at_lt hia
      have p1:=rowQ_at hxA
      have hmem:=hin x (List.mem_of_getElem? hxA)
      have hfull:fndB B (mvP k x) B.length=true:=by
        unfold fndB
        rw [List.take_length,List.any_eq_true]
        exact ⟨_,hmem,by simp⟩
      repeat' (first|refine T.seqK fun K hK=>?_|refine T.block ?_|(refine T.reg (by kernel_rfl) fun K' hK'=>?_;simp only [startSt,frOf,List.map_cons,List.map_nil];(repeat' (first|(with_reducible refine WL.fin ?_;refine hK' _ ?_;clear hK' K')|((with_reducible refine WL.step fun K2 hK2=>?_);simp only [simprocAttr,implies_true,amz,abin,tys,rowQ_len,hd2];(repeat' (first|with_reducible (first|(refine hK2 _ ?_;clear hK2 K2)|refine And.intro ?_ ?_|intro hb) ))))))|refine T.skip ?_|refine T.exit ?_|refine T.condT rfl ?_|refine T.condF rfl ?_|refine T.cond rfl (fun hc=>?_) (fun hc=>?_)|refine T.ret ?_|simp only [ThenA,InBlock,reduceIte,Nat.reduceEqDiff]|((repeat ((fail_if_success (refine hK _ ?_));clear hK K));refine hK _ ?_;clear hK K))
      refine T.loopK (fun j:Nat=>⟨[(0,.p (.seq 9 (l.map evC))),(5,.int k),(11,.p (.seq 2 (rowQ A))),(12,.p (.seq 2 (rowQ B))),(13,.int i),(14,.bool (fndB B (mvP k x) j)),(15,.int j)],[],174,3⟩) (fun j=>j≤B.length) (fun j=>B.length - j) 0 (Nat.zero_le _) (by refine Weak.of' rfl ?_;simp only [wks,reduceIte,Nat.reduceEqDiff,ASt.okB,AV.okB,Nat.reduceLT,implies_true,Int.natCast_zero,fndB,List.take_zero,List.any_nil]) ?_
      intro j hj KL3 hKL3
      by_cases hjb:j < B.length
      · have hd3:decide ((j:Int) < (B.length:Int))=true:=by simpa using hjb
        have hj0:(0:Int)≤(j:Int):=by omega
        obtain ⟨y,hyB⟩:=at_lt hjb
        have p2:=rowQ_at hyB
        have hst:fndB B (mvP k x) (j + 1)=(fndB B (mvP k x) j || (y.1 == mvN k x.1 && y.2 == mvN k x.2)):=any_take hyB _
        have m1:=moved_ok x.1 k (by omega)
        have m2:=moved_ok x.2 k (by omega)
        obtain ⟨f2,hf2⟩ : ∃ f,f=fndB B (mvP k x) (j + 1):=⟨_,rfl⟩
        rw [← hf2] at hst
        generalize fndB B (mvP k x) j=f1 at hst
        cases e1:(y.1 == mvN k x.1) <;> cases e2:(y.2 == mvN k x.2)
        all_goals (have d1:=(nat_beq y.1 (mvN k x.1)).trans e1;have d2:=(nat_beq y.2 (mvN k x.2)).trans e2;rw [e1,e2] at hst)
        all_goals (repeat' (first|refine T.seqK fun K hK=>?_|refine T.block ?_|(refine T.reg (by kernel_rfl) fun K' hK'=>?_;simp only [startSt,frOf,List.map_cons,List.map_nil];(repeat' (first|(with_reducible refine WL.fin ?_;refine hK' _ ?_;clear hK' K')|((with_reducible refine WL.step fun K2 hK2=>?_);simp only [simprocAttr,implies_true,amz,abin,tys,rowQ_len,hd3];(repeat' (first|with_reducible (first|(refine hK2 _ ?_;clear hK2 K2)|refine And.intro ?_ ?_|intro hb) ))))))|refine T.skip ?_|refine T.exit ?_|refine T.condT rfl ?_|refine T.condF rfl ?_|refine T.cond rfl (fun hc=>?_) (fun hc=>?_)|refine T.ret ?_|simp only [ThenA,InBlock,reduceIte,Nat.reduceEqDiff]|((repeat ((fail_if_success (refine hK _ ?_));clear hK K));refine hK _ ?_;clear hK K)))
        all_goals (refine T.drw 28 (by kernel_rfl) (by kernel_rfl) fun K' hK'=>?_;simp only [List.map_cons,List.map_nil];(repeat' (first|(with_reducible refine WL.fin ?_;refine hK' _ ?_;clear hK' K')|(with_reducible refine WD.fin ?_)|((with_reducible first|refine WL.step fun K2 hK2=>?_|refine WD.step fun K2 hK2=>?_);simp only [simprocAttr,implies_true,amz,abin,tys,rowQ_len,hi0,hj0,Int.toNat_natCast,p1,p2,raC,d1,d2];(repeat' (first|with_reducible (first|(refine hK2 _ ?_;clear hK2 K2)|refine And.intro ?_ ?_|intro hb)|((first|(with_reducible apply callArmO)|(with_reducible apply callArm));case h=>exact CallV.plain (Ent.of Try.func26 (by kernel_rfl) rfl) (m1) (by simp [AV.okB]))|((first|(with_reducible apply callArmO)|(with_reducible apply callArm));case h=>exact CallV.plain (Ent.of Try.func26 (by kernel_rfl) rfl) (m2) (by simp [AV.okB])))))));all_goals ((try simp only [ThenA,InBlock,reduceIte,Nat.reduceEqDiff]);(try ((repeat ((fail_if_success (refine hK _ ?_));clear hK K));refine hK _ ?_;clear hK K))))
        all_goals (repeat' (first|refine T.seqK fun K hK=>?_|refine T.block ?_|(refine T.reg (by kernel_rfl) fun K' hK'=>?_;simp only [startSt,frOf,List.map_cons,List.map_nil];(repeat' (first|(with_reducible refine WL.fin ?_;refine hK' _ ?_;clear hK' K')|((with_reducible refine WL.step fun K2 hK2=>?_);simp only [simprocAttr,implies_true,amz,abin,tys];(repeat' (first|with_reducible (first|(refine hK2 _ ?_;clear hK2 K2)|refine And.intro ?_ ?_|intro hb) ))))))|refine T.skip ?_|refine T.exit ?_|refine T.condT rfl ?_|refine T.condF rfl ?_|refine T.cond rfl (fun hc=>?_) (fun hc=>?_)|refine T.ret ?_|simp only [ThenA,InBlock,reduceIte,Nat.reduceEqDiff]|((repeat ((fail_if_success (refine hK _ ?_));clear hK K));refine hK _ ?_;clear hK K)))
        all_goals (refine hKL3 _ (j + 1) ?_ (by omega) (by omega);rw [show fndB B (mvP k x) (j + 1)=f2 from hf2.symm])
        all_goals (cases f1)
        all_goals (cases hst)
        all_goals (refine Weak.of' rfl ?_;simp only [wks,reduceIte,Nat.reduceEqDiff,ASt.okB,AV.okB,Nat.reduceLT,implies_true,wrap_succ (show j < 1152921504606846976 by omega),Bool.or_false,Bool.false_or,Bool.or_true,Bool.true_or,Bool.and_false,Bool.false_and,Bool.and_self,Bool.or_self])
      · have hd3:decide ((j:Int) < (B.length:Int))=false:=by simpa using hjb
        have hjB:j=B.length:=by omega
        subst hjB
        rw [hfull]
        repeat' (first|refine T.seqK fun K hK=>?_|refine T.block ?_|(refine T.reg (by kernel_rfl) fun K' hK'=>?_;simp only [startSt,frOf,List.map_cons,List.map_nil];(repeat' (first|(with_reducible refine WL.fin ?_;refine hK' _ ?_;clear hK' K')|((with_reducible refine WL.step fun K2 hK2=>?_);simp only [simprocAttr,implies_true,amz,abin,tys,rowQ_len,hd3,Bool.not_true];(repeat' (first|with_reducible (first|(refine hK2 _ ?_;clear hK2 K2)|refine And.intro ?_ ?_|intro hb) ))))))|refine T.skip ?_|refine T.exit ?_|refine T.condT rfl ?_|refine T.condF rfl ?_|refine T.cond rfl (fun hc=>?_) (fun hc=>?_)|refine T.ret ?_|simp only [ThenA,InBlock,reduceIte,Nat.reduceEqDiff]|((repeat ((fail_if_success (refine hK _ ?_));clear hK K));refine hK _ ?_;clear hK K))
        refine hKL2 _ (i + 1) ?_ (by omega) (by omega)
        refine Weak.of' rfl ?_;simp only [wks,reduceIte,Nat.reduceEqDiff,ASt.okB,AV.okB,Nat.reduceLT,implies_true,wrap_succ (show i < 1152921504606846976 by omega)]
    · have hd2:decide ((i:Int) < (A.length:Int))=false:=by simpa using hia
      have hbe:((A.length:Int) == (B.length:Int))=true:=by rw [hlen];simp
      repeat' (first|refine T.seqK fun K hK=>?_|refine T.block ?_|(refine T.reg (by kernel_rfl) fun K' hK'=>?_;simp only [startSt,frOf,List.map_cons,List.map_nil];(repeat' (first|(with_reducible refine WL.fin ?_;refine hK' _ ?_;clear hK' K')|((with_reducible refine WL.step fun K2 hK2=>?_);simp only [simprocAttr,implies_true,amz,abin,tys,rowQ_len,hd2,hbe];(repeat' (first|with_reducible (first|(refine hK2 _ ?_;clear hK2 K2)|refine And.intro ?_ ?_|intro hb) ))))))|refine T.skip ?_|refine T.exit ?_|refine T.condT rfl ?_|refine T.condF rfl ?_|refine T.cond rfl (fun hc=>?_) (fun hc=>?_)|refine T.ret ?_|simp only [ThenA,InBlock,reduceIte,Nat.reduceEqDiff]|((repeat ((fail_if_success (refine hK _ ?_));clear hK K));refine hK _ ?_;clear hK K))
      refine FinA.ret (.inr rfl) Try.results10 ?_;simp only [ares,aresL,ares1,simprocAttr,implies_true,amz,abin,tys,]
end Go.Proofs.Ytnckehomadnhoaa
