/- Texts Ql, Qn, Qy, Qp. -/
import Derived.Test.YtnckehomadnhoaaZ08
namespace Go.Proofs.Ytnckehomadnhoaa
open Go.RowKit Go.Sort
set_option linter.unusedSimpArgs false
set_option linter.unusedVariables false
theorem bef_nat {l:List Ev} (hv:(checkB l).2=true) {i j:Nat} (hi:i < l.length) (hj:j < l.length):befO l i j=hbB l j i:=by
  rw [bef_eq]
  unfold befR
  have d3:decide ((l.length:Int)≤(i:Int))=false:=by simp;omega
  have d4:decide ((l.length:Int)≤(j:Int))=false:=by simp;omega
  rw [hv,d3,d4]
  simp
end Go.Proofs.Ytnckehomadnhoaa
namespace Go.Proofs.Ytnckehomadnhoaa
set_option linter.unusedSimpArgs false
set_option linter.unusedVariables false
theorem hb_prog {l:List Ev} : ∀ (d:Nat) {i j:Nat} {x y:Ev},j - i≤d→i < j→l[i]? = some x→l[j]? = some y→x.g=y.g→hbB l j i=true:=by
  intro d
  induction d with
  | zero=>intro i j x y h1 h2;omega
  | succ d ih =>
    intro i j x y h1 h2 hx hy hg
    cases hp:((l.take j).drop (i + 1)).any (fun e=>e.g == x.g) with
    | false =>
      refine hb_imm h2 ?_
      rw [immL_at hx hy,immB_iff hx hy]
      refine .inl ?_
      unfold progB
      rw [hp]
      simp [hg]
    | true =>
      obtain ⟨e,he,hge⟩:=List.any_eq_true.1 hp
      obtain ⟨k,hk,rfl⟩:=List.mem_iff_getElem.1 he
      have hk2:k < j - (i + 1):=by
        rw [List.length_drop,List.length_take] at hk
        omega
      have hjl:=(List.getElem?_eq_some_iff.1 hy).1
      have hz:l[i + 1 + k]? = some ((l.take j).drop (i + 1))[k]:=by
        rw [List.getElem_drop,List.getElem_take,List.getElem?_eq_getElem (by omega)]
      have hge' : ((l.take j).drop (i + 1))[k].g=x.g:=by simpa using hge
      exact hb_trans _ (ih (i:=i + 1 + k) (j:=j) (by omega) (by omega) hz hy (hge'.trans hg)) (ih (i:=i) (j:=i + 1 + k) (by omega) (by omega) hx hz hge'.symm)
end Go.Proofs.Ytnckehomadnhoaa
namespace Go.Proofs.Ytnckehomadnhoaa
open Go.RowKit Go.Sort
set_option linter.unusedSimpArgs false
set_option linter.unusedVariables false
def bm (n:Nat) (f:Nat→Bool):List AV:=(List.range n).map fun q => .p (.val (.bool (f q)))
def bz (n:Nat):List Value:=List.replicate n (.bool false)
theorem bz_map (n:Nat):(bz n).map (fun v=>AV.p (.val v))=bm n fun _=>false:=by
  simp only [bz,bm,List.map_replicate]
  apply List.ext_getElem?
  intro i
  simp only [List.getElem?_replicate,List.getElem?_map]
  by_cases h:i < n
  · rw [if_pos h,List.getElem?_range h];rfl
  · rw [if_neg h,List.getElem?_eq_none (by simpa using h)];rfl
theorem bm_len (n:Nat) (f:Nat→Bool):(bm n f).length=n:=by simp [bm]
theorem bm_at {n q:Nat} (f:Nat→Bool) (h:q < n):(bm n f)[q]? = some (.p (.val (.bool (f q)))):=by
  unfold bm;rw [List.getElem?_map,List.getElem?_range h];rfl
def upB (f:Nat→Bool) (q:Nat) (b:Bool):Nat→Bool:=fun p=>if p=q then b else f p
theorem bm_set {n q:Nat} (f:Nat→Bool) (b:Bool) (h:q < n):(bm n f).take q ++ [.p (.val (.bool b))] ++ (bm n f).drop (q + 1)=bm n (upB f q b):=by
  apply List.ext_getElem?
  intro i
  have hl:((bm n f).take q).length=q:=by simp [bm_len];omega
  by_cases hi:i < n
  · rw [bm_at _ hi]
    unfold upB
    by_cases e:i=q
    · subst e
      rw [if_pos rfl,List.append_assoc,List.getElem?_append_right (by omega),hl];simp
    · rw [if_neg e]
      by_cases hlt:i < q
      · rw [List.append_assoc,List.getElem?_append_left (by omega),List.getElem?_take_of_lt hlt,bm_at _ hi]
      · rw [List.getElem?_append_right (by simp;omega),List.getElem?_drop]
        rw [show q + 1 + (i - ((bm n f).take q ++ [AV.p (.val (.bool b))]).length)=i by simp [bm_len];omega,bm_at _ hi]
  · rw [List.getElem?_eq_none (by simp [bm_len];omega),List.getElem?_eq_none (by simp [bm_len];omega)]
theorem bm_okB {m n:Nat} (f:Nat→Bool):(bm n f).all (AV.okB m)=true:=by
  rw [List.all_eq_true]
  intro x hx
  obtain ⟨q,_,rfl⟩:=List.mem_map.1 hx
  simp [AV.okB]
end Go.Proofs.Ytnckehomadnhoaa
namespace Go.Proofs.Ytnckehomadnhoaa
open Go.RowKit Go.Sort
set_option linter.unusedSimpArgs false
set_option linter.unusedVariables false
theorem ars:(arrSz Try.prog 42=some (16,16))∧(arrSz Try.prog 41=some (16,1))∧(tyZero Try.prog 42=some (bz 256)):=⟨by kernel_rfl,by kernel_rfl,by kernel_rfl⟩
set_option maxHeartbeats 8000000 in
set_option maxRecDepth 100000 in
theorem lawPartial_ok (l:List Ev):PureC Try.prog 7 [.p (.seq 9 (l.map evC))] (.bool true):=by
  have hw:=awake_ok
  have hlm:(l.map evC).length=l.length:=by simp
  by_cases hn:l.length ≤ 16
  case neg =>
    have hg:decide ((16:Int) < (l.length:Int))=true:=by simp;omega
    refine PureC.of Try.func7 rfl 113 rfl (by decide) (by simp [AV.okB]) ?_
    repeat' (first|refine T.seqK fun K hK=>?_|refine T.block ?_|(refine T.reg (by kernel_rfl) fun K' hK'=>?_;simp only [startSt,frOf,List.map_cons,List.map_nil];(repeat' (first|(with_reducible refine WL.fin ?_;refine hK' _ ?_;clear hK' K')|((with_reducible refine WL.step fun K2 hK2=>?_);simp only [simprocAttr,implies_true,amz,tys,hlm,hg];(repeat' (first|with_reducible (first|(refine hK2 _ ?_;clear hK2 K2)|refine And.intro ?_ ?_|intro hb)|((first|(with_reducible apply callArmO)|(with_reducible apply callArm));case h=>exact CallV.plain (Ent.of Try.func12 (by kernel_rfl) rfl) (hw) (by simp [AV.okB]))))))))|refine T.skip ?_|refine T.exit ?_|refine T.condT rfl ?_|refine T.condF rfl ?_|refine T.cond rfl (fun hc=>?_) (fun hc=>?_)|refine T.ret ?_|simp only [ThenA,InBlock,reduceIte,Nat.reduceEqDiff]|((repeat ((fail_if_success (refine hK _ ?_));clear hK K));refine hK _ ?_;clear hK K))
    all_goals (refine FinA.ret (.inr rfl) Try.results7 ?_;simp only [ares,aresL,ares1,simprocAttr,implies_true,amz,tys,])
  have hg:decide ((16:Int) < (l.length:Int))=false:=by simp;omega
  have hv:=validT_ok l (by omega)
  cases h5:(checkB l).2 with
  | false =>
    rw [h5] at hv
    refine PureC.of Try.func7 rfl 113 rfl (by decide) (by simp [AV.okB]) ?_
    repeat' (first|refine T.seqK fun K hK=>?_|refine T.block ?_|(refine T.reg (by kernel_rfl) fun K' hK'=>?_;simp only [startSt,frOf,List.map_cons,List.map_nil];(repeat' (first|(with_reducible refine WL.fin ?_;refine hK' _ ?_;clear hK' K')|((with_reducible refine WL.step fun K2 hK2=>?_);simp only [simprocAttr,implies_true,amz,tys,hlm,hg];(repeat' (first|with_reducible (first|(refine hK2 _ ?_;clear hK2 K2)|refine And.intro ?_ ?_|intro hb)|((first|(with_reducible apply callArmO)|(with_reducible apply callArm));case h=>exact CallV.plain (Ent.of Try.func12 (by kernel_rfl) rfl) (hw) (by simp [AV.okB]))|((first|(with_reducible apply callArmO)|(with_reducible apply callArm));case h=>exact CallV.plain (Ent.of Try.func18 (by kernel_rfl) rfl) (hv) (by simp [AV.okB]))))))))|refine T.skip ?_|refine T.exit ?_|refine T.condT rfl ?_|refine T.condF rfl ?_|refine T.cond rfl (fun hc=>?_) (fun hc=>?_)|refine T.ret ?_|simp only [ThenA,InBlock,reduceIte,Nat.reduceEqDiff]|((repeat ((fail_if_success (refine hK _ ?_));clear hK K));refine hK _ ?_;clear hK K))
    all_goals (refine FinA.ret (.inr rfl) Try.results7 ?_;simp only [ares,aresL,ares1,simprocAttr,implies_true,amz,tys,])
  | true =>
    rw [h5] at hv
    have hb1:=fun a b=>before_ok l (by omega) a b
    refine PureC.of Try.func7 rfl 113 rfl (by decide) (by simp [AV.okB]) ?_
    repeat' (first|refine T.seqK fun K hK=>?_|refine T.block ?_|(refine T.reg (by kernel_rfl) fun K' hK'=>?_;simp only [startSt,frOf,List.map_cons,List.map_nil];(repeat' (first|(with_reducible refine WL.fin ?_;refine hK' _ ?_;clear hK' K')|((with_reducible refine WL.step fun K2 hK2=>?_);simp only [simprocAttr,implies_true,amz,tys,hlm,hg,ars,bz_map];(repeat' (first|with_reducible (first|(refine hK2 _ ?_;clear hK2 K2)|refine And.intro ?_ ?_|intro hb)|((first|(with_reducible apply callArmO)|(with_reducible apply callArm));case h=>exact CallV.plain (Ent.of Try.func12 (by kernel_rfl) rfl) (hw) (by simp [AV.okB]))|((first|(with_reducible apply callArmO)|(with_reducible apply callArm));case h=>exact CallV.plain (Ent.of Try.func18 (by kernel_rfl) rfl) (hv) (by simp [AV.okB]))))))))|refine T.skip ?_|refine T.exit ?_|refine T.condT rfl ?_|refine T.condF rfl ?_|refine T.cond rfl (fun hc=>?_) (fun hc=>?_)|refine T.ret ?_|simp only [ThenA,InBlock,reduceIte,Nat.reduceEqDiff]|((repeat ((fail_if_success (refine hK _ ?_));clear hK K));refine hK _ ?_;clear hK K))
    refine T.loopK (fun p:Nat × (Nat→Bool)=>⟨[(0,.p (.seq 9 (l.map evC))),(3,.ptr 0 0),(4,.int p.1)],[(0,.boxP none 42 (bm 256 p.2))],113,1⟩) (fun p=>p.1≤l.length ∧ ∀ a b,a < p.1→b < l.length→p.2 (a * 16 + b)=hbB l b a) (fun p=>l.length - p.1) (0,fun _=>false) ⟨Nat.zero_le _,fun a b h=>absurd h (Nat.not_lt_zero a)⟩ (by refine Weak.of' rfl ?_;simp only [wks,reduceIte,Nat.reduceEqDiff,ASt.okB,AV.okB,Nat.reduceLT,implies_true,Int.natCast_zero,bm_okB]) ?_
    rintro ⟨i,f⟩ ⟨hi,hf⟩ KL hKL
    simp only at hi hf hKL ⊢
    by_cases hin:i < l.length
    · have hd:decide ((i:Int) < (l.length:Int))=true:=by simpa using hin
      obtain ⟨x,hx⟩:=at_lt hin
      have hi0:(0:Int)≤(i:Int):=by omega
      have hi16:i < 16:=by omega
      repeat' (first|refine T.seqK fun K hK=>?_|refine T.block ?_|(refine T.reg (by kernel_rfl) fun K' hK'=>?_;simp only [startSt,frOf,List.map_cons,List.map_nil];(repeat' (first|(with_reducible refine WL.fin ?_;refine hK' _ ?_;clear hK' K')|((with_reducible refine WL.step fun K2 hK2=>?_);simp only [simprocAttr,implies_true,amz,tys,hlm,hd];(repeat' (first|with_reducible (first|(refine hK2 _ ?_;clear hK2 K2)|refine And.intro ?_ ?_|intro hb) ))))))|refine T.skip ?_|refine T.exit ?_|refine T.condT rfl ?_|refine T.condF rfl ?_|refine T.cond rfl (fun hc=>?_) (fun hc=>?_)|refine T.ret ?_|simp only [ThenA,InBlock,reduceIte,Nat.reduceEqDiff]|((repeat ((fail_if_success (refine hK _ ?_));clear hK K));refine hK _ ?_;clear hK K))
      refine T.loopK (fun p:Nat × (Nat→Bool)=>⟨[(0,.p (.seq 9 (l.map evC))),(3,.ptr 0 0),(4,.int i),(5,.int p.1)],[(0,.boxP none 42 (bm 256 p.2))],113,1⟩) (fun p=>p.1≤l.length∧(∀ a b,a < i→b < l.length→p.2 (a * 16 + b)=hbB l b a) ∧ ∀ b,b < p.1→p.2 (i * 16 + b)=hbB l b i) (fun p=>l.length - p.1) (0,f) ⟨Nat.zero_le _,hf,fun b h=>absurd h (Nat.not_lt_zero b)⟩ (by refine Weak.of' rfl ?_;simp only [wks,reduceIte,Nat.reduceEqDiff,ASt.okB,AV.okB,Nat.reduceLT,implies_true,Int.natCast_zero,bm_okB]) ?_
      rintro ⟨j,f2⟩ ⟨hj,hf2,hg2⟩ KL2 hKL2
      simp only at hj hf2 hg2 hKL2 ⊢
      by_cases hjn:j < l.length
      · have hd2:decide ((j:Int) < (l.length:Int))=true:=by simpa using hjn
        obtain ⟨y,hy⟩:=at_lt hjn
        have hj0:(0:Int)≤(j:Int):=by omega
        have hj16:j < 16:=by omega
        have hq:i * 16 + j < 256:=by omega
        have hq1:i * 16 + j + 1 ≤ 256:=hq
        have q1:=hb1 i j
        rw [bef_nat h5 hin hjn] at q1
        obtain ⟨v,hv3⟩ : ∃ v,v=hbB l j i:=⟨_,rfl⟩
        rw [← hv3] at q1
        have hset:=bm_set f2 v hq
        have hat:(bm 256 (upB f2 (i * 16 + j) v))[i * 16 + j]? = some (.p (.val (.bool v))):=by rw [bm_at _ hq];simp [upB]
        have hinv:j + 1≤l.length∧(∀ a b,a < i→b < l.length→upB f2 (i * 16 + j) v (a * 16 + b)=hbB l b a) ∧ ∀ b,b < j + 1→upB f2 (i * 16 + j) v (i * 16 + b)=hbB l b i:=by
          refine ⟨hjn,fun a b ha hb=>?_,fun b hb=>?_⟩
          · unfold upB
            rw [if_neg (by omega)]
            exact hf2 a b ha hb
          · unfold upB
            by_cases e:b=j
            · subst e;rw [if_pos rfl,hv3]
            · rw [if_neg (by omega)]
              exact hg2 b (by omega)
        generalize upB f2 (i * 16 + j) v=f3 at hset hat hinv
        repeat' (first|refine T.seqK fun K hK=>?_|refine T.block ?_|(refine T.reg (by kernel_rfl) fun K' hK'=>?_;simp only [startSt,frOf,List.map_cons,List.map_nil];(repeat' (first|(with_reducible refine WL.fin ?_;refine hK' _ ?_;clear hK' K')|((with_reducible refine WL.step fun K2 hK2=>?_);simp only [simprocAttr,implies_true,amz,tys,hlm,hd2];(repeat' (first|with_reducible (first|(refine hK2 _ ?_;clear hK2 K2)|refine And.intro ?_ ?_|intro hb) ))))))|refine T.skip ?_|refine T.exit ?_|refine T.condT rfl ?_|refine T.condF rfl ?_|refine T.cond rfl (fun hc=>?_) (fun hc=>?_)|refine T.ret ?_|simp only [ThenA,InBlock,reduceIte,Nat.reduceEqDiff]|((repeat ((fail_if_success (refine hK _ ?_));clear hK K));refine hK _ ?_;clear hK K))
        refine T.drw 7 (by kernel_rfl) (by kernel_rfl) fun K' hK'=>?_;simp only [List.map_cons,List.map_nil];(repeat' (first|(with_reducible refine WL.fin ?_;refine hK' _ ?_;clear hK' K')|(with_reducible refine WD.fin ?_)|((with_reducible first|refine WL.step fun K2 hK2=>?_|refine WD.step fun K2 hK2=>?_);simp only [simprocAttr,implies_true,amz,tys,ars,hi0,hi16,hj0,hj16,Int.toNat_natCast,Nat.zero_add,Nat.mul_one,bm_len,hset,hq1];(repeat' (first|with_reducible (first|(refine hK2 _ ?_;clear hK2 K2)|refine And.intro ?_ ?_|intro hb)|((first|(with_reducible apply callArmO)|(with_reducible apply callArm));case h=>exact CallV.plain (Ent.of Try.func16 (by kernel_rfl) rfl) (q1) (by simp [AV.okB])))))));all_goals ((try simp only [ThenA,InBlock,reduceIte,Nat.reduceEqDiff]);(try ((repeat ((fail_if_success (refine hK _ ?_));clear hK K));refine hK _ ?_;clear hK K)))
        cases v with
        | true =>
          have hlt:=hbB_lt l j i hv3.symm
          have d1:decide ((j:Int)≤(i:Int))=false:=by simp;omega
          have d2:decide ((i:Int) < (j:Int))=true:=by simpa using hlt
          cases hc:(x.g == y.g)
          all_goals (repeat' (first|refine T.seqK fun K hK=>?_|refine T.block ?_|refine T.skip ?_|refine T.exit ?_|refine T.condT rfl ?_|refine T.condF rfl ?_|refine T.cond rfl (fun hc=>?_) (fun hc=>?_)|refine T.ret ?_|simp only [ThenA,InBlock,reduceIte,Nat.reduceEqDiff]|((repeat ((fail_if_success (refine hK _ ?_));clear hK K));refine hK _ ?_;clear hK K)))
          all_goals (refine T.comm [some (0,0),some (0,0),some (0,0),some (0,0),some (0,0),some (0,0),some (0,0),some (0,0),some (0,0),some (0,0),some (0,0),some (0,0),some (0,0),some (0,0),some (0,0),some (0,0),some (0,0),some (0,0),some (0,0),some (0,0),some (0,0),some (0,0),some (0,0),some (0,0),some (0,0),some (0,0),some (0,0),some (0,0),some (0,0),some (0,0),some (0,0),some (0,0),some (0,0),some (0,0),some (0,0),some (0,0)] (by kernel_rfl) (by kernel_rfl) fun K' hK'=>?_;simp only [List.map_cons,List.map_nil,List.zip_cons_cons,List.zip_nil_left];(repeat' (first|(with_reducible refine WC.fin ?_;refine hK' _ ?_;clear hK' K')|((first|(with_reducible refine WC.stepV fun K2 hK2=>?_)|(with_reducible refine WC.stepW fun K2 hK2=>?_));simp only [simprocAttr,implies_true,amz,WCg,WCv,WOw,allP,dav,Chk,List.filter_cons,List.filter_nil,bne_self_eq_false,Nat.reduceBneDiff,Bool.false_eq_true,tys,ars,hi0,hi16,hj0,hj16,Int.toNat_natCast,Nat.zero_add,Nat.mul_one,hat,d1,d2,hx,hy,evC,hc];(repeat' (first|(with_reducible refine hK2 _ _ ?_;clear hK2 K2)|with_reducible (first|(refine hK2 _ ?_;clear hK2 K2)|refine And.intro ?_ ?_|intro hb)|(with_reducible rfl)|((with_reducible show @Eq ASt _ _);rfl) )))));all_goals ((try simp only [ThenA,InBlock,reduceIte,Nat.reduceEqDiff]);(try ((repeat ((fail_if_success (refine hK _ ?_));clear hK K));refine hK _ ?_;clear hK K))))
          all_goals repeat' (first|refine T.seqK fun K hK=>?_|refine T.block ?_|(refine T.reg (by kernel_rfl) fun K' hK'=>?_;simp only [startSt,frOf,List.map_cons,List.map_nil];(repeat' (first|(with_reducible refine WL.fin ?_;refine hK' _ ?_;clear hK' K')|((with_reducible refine WL.step fun K2 hK2=>?_);simp only [simprocAttr,implies_true,amz,tys];(repeat' (first|with_reducible (first|(refine hK2 _ ?_;clear hK2 K2)|refine And.intro ?_ ?_|intro hb) ))))))|refine T.skip ?_|refine T.exit ?_|refine T.condT rfl ?_|refine T.condF rfl ?_|refine T.cond rfl (fun hc=>?_) (fun hc=>?_)|refine T.ret ?_|simp only [ThenA,InBlock,reduceIte,Nat.reduceEqDiff]|((repeat ((fail_if_success (refine hK _ ?_));clear hK K));refine hK _ ?_;clear hK K))
          all_goals (refine hKL2 _ (j + 1,f3) ?_ hinv (by simp only;omega);refine Weak.of' rfl ?_;simp only [wks,reduceIte,Nat.reduceEqDiff,ASt.okB,AV.okB,Nat.reduceLT,implies_true,wrap_succ (show j < 1152921504606846976 by omega),bm_okB])
        | false =>
          cases hc:(x.g == y.g) with
          | false =>
            cases d2:decide ((i:Int) < (j:Int))
            all_goals (repeat' (first|refine T.seqK fun K hK=>?_|refine T.block ?_|refine T.skip ?_|refine T.exit ?_|refine T.condT rfl ?_|refine T.condF rfl ?_|refine T.cond rfl (fun hc=>?_) (fun hc=>?_)|refine T.ret ?_|simp only [ThenA,InBlock,reduceIte,Nat.reduceEqDiff]|((repeat ((fail_if_success (refine hK _ ?_));clear hK K));refine hK _ ?_;clear hK K)))
            all_goals (refine T.comm [some (0,0),some (0,0),some (0,0),some (0,0),some (0,0),some (0,0),some (0,0),some (0,0),some (0,0),some (0,0),some (0,0),some (0,0),some (0,0),some (0,0),some (0,0),some (0,0),some (0,0),some (0,0),some (0,0),some (0,0),some (0,0),some (0,0),some (0,0),some (0,0),some (0,0),some (0,0),some (0,0),some (0,0),some (0,0),some (0,0),some (0,0),some (0,0),some (0,0),some (0,0),some (0,0),some (0,0)] (by kernel_rfl) (by kernel_rfl) fun K' hK'=>?_;simp only [List.map_cons,List.map_nil,List.zip_cons_cons,List.zip_nil_left];(repeat' (first|(with_reducible refine WC.fin ?_;refine hK' _ ?_;clear hK' K')|((first|(with_reducible refine WC.stepV fun K2 hK2=>?_)|(with_reducible refine WC.stepW fun K2 hK2=>?_));simp only [simprocAttr,implies_true,amz,WCg,WCv,WOw,allP,dav,Chk,List.filter_cons,List.filter_nil,bne_self_eq_false,Nat.reduceBneDiff,Bool.false_eq_true,tys,ars,hi0,hi16,hj0,hj16,Int.toNat_natCast,Nat.zero_add,Nat.mul_one,hat,d2,hx,hy,evC,hc];(repeat' (first|(with_reducible refine hK2 _ _ ?_;clear hK2 K2)|with_reducible (first|(refine hK2 _ ?_;clear hK2 K2)|refine And.intro ?_ ?_|intro hb)|(with_reducible rfl)|((with_reducible show @Eq ASt _ _);rfl) )))));all_goals ((try simp only [ThenA,InBlock,reduceIte,Nat.reduceEqDiff]);(try ((repeat ((fail_if_success (refine hK _ ?_));clear hK K));refine hK _ ?_;clear hK K))))
            all_goals repeat' (first|refine T.seqK fun K hK=>?_|refine T.block ?_|(refine T.reg (by kernel_rfl) fun K' hK'=>?_;simp only [startSt,frOf,List.map_cons,List.map_nil];(repeat' (first|(with_reducible refine WL.fin ?_;refine hK' _ ?_;clear hK' K')|((with_reducible refine WL.step fun K2 hK2=>?_);simp only [simprocAttr,implies_true,amz,tys];(repeat' (first|with_reducible (first|(refine hK2 _ ?_;clear hK2 K2)|refine And.intro ?_ ?_|intro hb) ))))))|refine T.skip ?_|refine T.exit ?_|refine T.condT rfl ?_|refine T.condF rfl ?_|refine T.cond rfl (fun hc=>?_) (fun hc=>?_)|refine T.ret ?_|simp only [ThenA,InBlock,reduceIte,Nat.reduceEqDiff]|((repeat ((fail_if_success (refine hK _ ?_));clear hK K));refine hK _ ?_;clear hK K))
            all_goals (refine hKL2 _ (j + 1,f3) ?_ hinv (by simp only;omega);refine Weak.of' rfl ?_;simp only [wks,reduceIte,Nat.reduceEqDiff,ASt.okB,AV.okB,Nat.reduceLT,implies_true,wrap_succ (show j < 1152921504606846976 by omega),bm_okB])
          | true =>
            have hge : ¬ i < j:=fun h=>by
              have:=hb_prog (j - i) (Nat.le_refl _) h hx hy (by simpa using hc)
              rw [this] at hv3;cases hv3
            have d2:decide ((i:Int) < (j:Int))=false:=by simpa using hge
            repeat' (first|refine T.seqK fun K hK=>?_|refine T.block ?_|refine T.skip ?_|refine T.exit ?_|refine T.condT rfl ?_|refine T.condF rfl ?_|refine T.cond rfl (fun hc=>?_) (fun hc=>?_)|refine T.ret ?_|simp only [ThenA,InBlock,reduceIte,Nat.reduceEqDiff]|((repeat ((fail_if_success (refine hK _ ?_));clear hK K));refine hK _ ?_;clear hK K))
            refine T.comm [some (0,0),some (0,0),some (0,0),some (0,0),some (0,0),some (0,0),some (0,0),some (0,0),some (0,0),some (0,0),some (0,0),some (0,0),some (0,0),some (0,0),some (0,0),some (0,0),some (0,0),some (0,0),some (0,0),some (0,0),some (0,0),some (0,0),some (0,0),some (0,0),some (0,0),some (0,0),some (0,0),some (0,0),some (0,0),some (0,0),some (0,0),some (0,0),some (0,0),some (0,0),some (0,0),some (0,0)] (by kernel_rfl) (by kernel_rfl) fun K' hK'=>?_;simp only [List.map_cons,List.map_nil,List.zip_cons_cons,List.zip_nil_left];(repeat' (first|(with_reducible refine WC.fin ?_;refine hK' _ ?_;clear hK' K')|((first|(with_reducible refine WC.stepV fun K2 hK2=>?_)|(with_reducible refine WC.stepW fun K2 hK2=>?_));simp only [simprocAttr,implies_true,amz,WCg,WCv,WOw,allP,dav,Chk,List.filter_cons,List.filter_nil,bne_self_eq_false,Nat.reduceBneDiff,Bool.false_eq_true,tys,ars,hi0,hi16,hj0,hj16,Int.toNat_natCast,Nat.zero_add,Nat.mul_one,hat,d2,hx,hy,evC,hc];(repeat' (first|(with_reducible refine hK2 _ _ ?_;clear hK2 K2)|with_reducible (first|(refine hK2 _ ?_;clear hK2 K2)|refine And.intro ?_ ?_|intro hb)|(with_reducible rfl)|((with_reducible show @Eq ASt _ _);rfl) )))));all_goals ((try simp only [ThenA,InBlock,reduceIte,Nat.reduceEqDiff]);(try ((repeat ((fail_if_success (refine hK _ ?_));clear hK K));refine hK _ ?_;clear hK K)))
            all_goals repeat' (first|refine T.seqK fun K hK=>?_|refine T.block ?_|(refine T.reg (by kernel_rfl) fun K' hK'=>?_;simp only [startSt,frOf,List.map_cons,List.map_nil];(repeat' (first|(with_reducible refine WL.fin ?_;refine hK' _ ?_;clear hK' K')|((with_reducible refine WL.step fun K2 hK2=>?_);simp only [simprocAttr,implies_true,amz,tys];(repeat' (first|with_reducible (first|(refine hK2 _ ?_;clear hK2 K2)|refine And.intro ?_ ?_|intro hb) ))))))|refine T.skip ?_|refine T.exit ?_|refine T.condT rfl ?_|refine T.condF rfl ?_|refine T.cond rfl (fun hc=>?_) (fun hc=>?_)|refine T.ret ?_|simp only [ThenA,InBlock,reduceIte,Nat.reduceEqDiff]|((repeat ((fail_if_success (refine hK _ ?_));clear hK K));refine hK _ ?_;clear hK K))
            all_goals (refine hKL2 _ (j + 1,f3) ?_ hinv (by simp only;omega);refine Weak.of' rfl ?_;simp only [wks,reduceIte,Nat.reduceEqDiff,ASt.okB,AV.okB,Nat.reduceLT,implies_true,wrap_succ (show j < 1152921504606846976 by omega),bm_okB])
      · have hd2:decide ((j:Int) < (l.length:Int))=false:=by simpa using hjn
        repeat' (first|refine T.seqK fun K hK=>?_|refine T.block ?_|(refine T.reg (by kernel_rfl) fun K' hK'=>?_;simp only [startSt,frOf,List.map_cons,List.map_nil];(repeat' (first|(with_reducible refine WL.fin ?_;refine hK' _ ?_;clear hK' K')|((with_reducible refine WL.step fun K2 hK2=>?_);simp only [simprocAttr,implies_true,amz,tys,hlm,hd2];(repeat' (first|with_reducible (first|(refine hK2 _ ?_;clear hK2 K2)|refine And.intro ?_ ?_|intro hb) ))))))|refine T.skip ?_|refine T.exit ?_|refine T.condT rfl ?_|refine T.condF rfl ?_|refine T.cond rfl (fun hc=>?_) (fun hc=>?_)|refine T.ret ?_|simp only [ThenA,InBlock,reduceIte,Nat.reduceEqDiff]|((repeat ((fail_if_success (refine hK _ ?_));clear hK K));refine hK _ ?_;clear hK K))
        refine hKL _ (i + 1,f2) ?_ ⟨hin,fun a b ha hb=>?_⟩ (by simp only;omega)
        · refine Weak.of' rfl ?_;simp only [wks,reduceIte,Nat.reduceEqDiff,ASt.okB,AV.okB,Nat.reduceLT,implies_true,wrap_succ (show i < 1152921504606846976 by omega),bm_okB]
        · by_cases e:a=i
          · subst e;exact hg2 b (by omega)
          · exact hf2 a b (by simp only at ha;omega) hb
    · have hd:decide ((i:Int) < (l.length:Int))=false:=by simpa using hin
      have hF : ∀ a b,a < l.length→b < l.length→(bm 256 f)[a * 16 + b]? = some (.p (.val (.bool (hbB l b a)))):=fun a b ha hb=>by
        rw [bm_at _ (by omega),hf a b (by omega) hb]
      repeat' (first|refine T.seqK fun K hK=>?_|refine T.block ?_|(refine T.reg (by kernel_rfl) fun K' hK'=>?_;simp only [startSt,frOf,List.map_cons,List.map_nil];(repeat' (first|(with_reducible refine WL.fin ?_;refine hK' _ ?_;clear hK' K')|((with_reducible refine WL.step fun K2 hK2=>?_);simp only [simprocAttr,implies_true,amz,tys,hlm,hd];(repeat' (first|with_reducible (first|(refine hK2 _ ?_;clear hK2 K2)|refine And.intro ?_ ?_|intro hb) ))))))|refine T.skip ?_|refine T.exit ?_|refine T.condT rfl ?_|refine T.condF rfl ?_|refine T.cond rfl (fun hc=>?_) (fun hc=>?_)|refine T.ret ?_|simp only [ThenA,InBlock,reduceIte,Nat.reduceEqDiff]|((repeat ((fail_if_success (refine hK _ ?_));clear hK K));refine hK _ ?_;clear hK K))
      refine T.loopK (fun i:Nat=>⟨[(0,.p (.seq 9 (l.map evC))),(3,.ptr 0 0),(6,.int i)],[(0,.boxP none 42 (bm 256 f))],113,1⟩) (fun i=>i≤l.length) (fun i=>l.length - i) 0 (Nat.zero_le _) (by refine Weak.of' rfl ?_;simp only [wks,reduceIte,Nat.reduceEqDiff,ASt.okB,AV.okB,Nat.reduceLT,implies_true,Int.natCast_zero,bm_okB]) ?_
      intro a ha KL2 hKL2
      by_cases han:a < l.length
      · have hda:decide ((a:Int) < (l.length:Int))=true:=by simpa using han
        have ha0:(0:Int)≤(a:Int):=by omega
        have ha16:a < 16:=by omega
        repeat' (first|refine T.seqK fun K hK=>?_|refine T.block ?_|(refine T.reg (by kernel_rfl) fun K' hK'=>?_;simp only [startSt,frOf,List.map_cons,List.map_nil];(repeat' (first|(with_reducible refine WL.fin ?_;refine hK' _ ?_;clear hK' K')|((with_reducible refine WL.step fun K2 hK2=>?_);simp only [simprocAttr,implies_true,amz,tys,hlm,hda];(repeat' (first|with_reducible (first|(refine hK2 _ ?_;clear hK2 K2)|refine And.intro ?_ ?_|intro hb) ))))))|refine T.skip ?_|refine T.exit ?_|refine T.condT rfl ?_|refine T.condF rfl ?_|refine T.cond rfl (fun hc=>?_) (fun hc=>?_)|refine T.ret ?_|simp only [ThenA,InBlock,reduceIte,Nat.reduceEqDiff]|((repeat ((fail_if_success (refine hK _ ?_));clear hK K));refine hK _ ?_;clear hK K))
        refine T.loopK (fun i:Nat=>⟨[(0,.p (.seq 9 (l.map evC))),(3,.ptr 0 0),(6,.int a),(7,.int i)],[(0,.boxP none 42 (bm 256 f))],113,1⟩) (fun i=>i≤l.length) (fun i=>l.length - i) 0 (Nat.zero_le _) (by refine Weak.of' rfl ?_;simp only [wks,reduceIte,Nat.reduceEqDiff,ASt.okB,AV.okB,Nat.reduceLT,implies_true,Int.natCast_zero,bm_okB]) ?_
        intro b hb KL3 hKL3
        by_cases hbn:b < l.length
        · have hdb:decide ((b:Int) < (l.length:Int))=true:=by simpa using hbn
          have hb0:(0:Int)≤(b:Int):=by omega
          have hb16:b < 16:=by omega
          repeat' (first|refine T.seqK fun K hK=>?_|refine T.block ?_|(refine T.reg (by kernel_rfl) fun K' hK'=>?_;simp only [startSt,frOf,List.map_cons,List.map_nil];(repeat' (first|(with_reducible refine WL.fin ?_;refine hK' _ ?_;clear hK' K')|((with_reducible refine WL.step fun K2 hK2=>?_);simp only [simprocAttr,implies_true,amz,tys,hlm,hdb];(repeat' (first|with_reducible (first|(refine hK2 _ ?_;clear hK2 K2)|refine And.intro ?_ ?_|intro hb) ))))))|refine T.skip ?_|refine T.exit ?_|refine T.condT rfl ?_|refine T.condF rfl ?_|refine T.cond rfl (fun hc=>?_) (fun hc=>?_)|refine T.ret ?_|simp only [ThenA,InBlock,reduceIte,Nat.reduceEqDiff]|((repeat ((fail_if_success (refine hK _ ?_));clear hK K));refine hK _ ?_;clear hK K))
          refine T.loopK (fun i:Nat=>⟨[(0,.p (.seq 9 (l.map evC))),(3,.ptr 0 0),(6,.int a),(7,.int b),(8,.int i)],[(0,.boxP none 42 (bm 256 f))],113,1⟩) (fun i=>i≤l.length) (fun i=>l.length - i) 0 (Nat.zero_le _) (by refine Weak.of' rfl ?_;simp only [wks,reduceIte,Nat.reduceEqDiff,ASt.okB,AV.okB,Nat.reduceLT,implies_true,Int.natCast_zero,bm_okB]) ?_
          intro c hc KL4 hKL4
          by_cases hcn:c < l.length
          · have hdc:decide ((c:Int) < (l.length:Int))=true:=by simpa using hcn
            have hc0:(0:Int)≤(c:Int):=by omega
            have hc16:c < 16:=by omega
            have t1:=hF a b han hbn
            have t2:=hF b c hbn hcn
            have t3:=hF a c han hcn
            have ht:hbB l c b=true→hbB l b a=true→hbB l c a=true:=fun h1 h2=>hb_trans c h1 h2
            generalize hbB l b a=v1 at t1 ht
            generalize hbB l c b=v2 at t2 ht
            generalize hbB l c a=v3 at t3 ht
            cases v1 <;> cases v2 <;> cases v3
            all_goals (first|(focus (have h9:=ht rfl rfl;cases h9;done))|skip)
            all_goals (repeat' (first|refine T.seqK fun K hK=>?_|refine T.block ?_|(refine T.reg (by kernel_rfl) fun K' hK'=>?_;simp only [startSt,frOf,List.map_cons,List.map_nil];(repeat' (first|(with_reducible refine WL.fin ?_;refine hK' _ ?_;clear hK' K')|((with_reducible refine WL.step fun K2 hK2=>?_);simp only [simprocAttr,implies_true,amz,tys,hlm,hdc,ars,ha0,ha16,hb0,hb16,hc0,hc16,Int.toNat_natCast,Nat.zero_add,Nat.mul_one,t1,t2,t3,Bool.not_true,Bool.not_false];(repeat' (first|with_reducible (first|(refine hK2 _ ?_;clear hK2 K2)|refine And.intro ?_ ?_|intro hb) ))))))|refine T.skip ?_|refine T.exit ?_|refine T.condT rfl ?_|refine T.condF rfl ?_|refine T.cond rfl (fun hc=>?_) (fun hc=>?_)|refine T.ret ?_|simp only [ThenA,InBlock,reduceIte,Nat.reduceEqDiff]|((repeat ((fail_if_success (refine hK _ ?_));clear hK K));refine hK _ ?_;clear hK K)))
            all_goals (refine hKL4 _ (c + 1) ?_ (by omega) (by omega);refine Weak.of' rfl ?_;simp only [wks,reduceIte,Nat.reduceEqDiff,ASt.okB,AV.okB,Nat.reduceLT,implies_true,wrap_succ (show c < 1152921504606846976 by omega),bm_okB])
          · have hdc:decide ((c:Int) < (l.length:Int))=false:=by simpa using hcn
            repeat' (first|refine T.seqK fun K hK=>?_|refine T.block ?_|(refine T.reg (by kernel_rfl) fun K' hK'=>?_;simp only [startSt,frOf,List.map_cons,List.map_nil];(repeat' (first|(with_reducible refine WL.fin ?_;refine hK' _ ?_;clear hK' K')|((with_reducible refine WL.step fun K2 hK2=>?_);simp only [simprocAttr,implies_true,amz,tys,hlm,hdc];(repeat' (first|with_reducible (first|(refine hK2 _ ?_;clear hK2 K2)|refine And.intro ?_ ?_|intro hb) ))))))|refine T.skip ?_|refine T.exit ?_|refine T.condT rfl ?_|refine T.condF rfl ?_|refine T.cond rfl (fun hc=>?_) (fun hc=>?_)|refine T.ret ?_|simp only [ThenA,InBlock,reduceIte,Nat.reduceEqDiff]|((repeat ((fail_if_success (refine hK _ ?_));clear hK K));refine hK _ ?_;clear hK K))
            refine hKL3 _ (b + 1) ?_ (by omega) (by omega)
            refine Weak.of' rfl ?_;simp only [wks,reduceIte,Nat.reduceEqDiff,ASt.okB,AV.okB,Nat.reduceLT,implies_true,wrap_succ (show b < 1152921504606846976 by omega),bm_okB]
        · have hdb:decide ((b:Int) < (l.length:Int))=false:=by simpa using hbn
          repeat' (first|refine T.seqK fun K hK=>?_|refine T.block ?_|(refine T.reg (by kernel_rfl) fun K' hK'=>?_;simp only [startSt,frOf,List.map_cons,List.map_nil];(repeat' (first|(with_reducible refine WL.fin ?_;refine hK' _ ?_;clear hK' K')|((with_reducible refine WL.step fun K2 hK2=>?_);simp only [simprocAttr,implies_true,amz,tys,hlm,hdb];(repeat' (first|with_reducible (first|(refine hK2 _ ?_;clear hK2 K2)|refine And.intro ?_ ?_|intro hb) ))))))|refine T.skip ?_|refine T.exit ?_|refine T.condT rfl ?_|refine T.condF rfl ?_|refine T.cond rfl (fun hc=>?_) (fun hc=>?_)|refine T.ret ?_|simp only [ThenA,InBlock,reduceIte,Nat.reduceEqDiff]|((repeat ((fail_if_success (refine hK _ ?_));clear hK K));refine hK _ ?_;clear hK K))
          refine hKL2 _ (a + 1) ?_ (by omega) (by omega)
          refine Weak.of' rfl ?_;simp only [wks,reduceIte,Nat.reduceEqDiff,ASt.okB,AV.okB,Nat.reduceLT,implies_true,wrap_succ (show a < 1152921504606846976 by omega),bm_okB]
      · have hda:decide ((a:Int) < (l.length:Int))=false:=by simpa using han
        repeat' (first|refine T.seqK fun K hK=>?_|refine T.block ?_|(refine T.reg (by kernel_rfl) fun K' hK'=>?_;simp only [startSt,frOf,List.map_cons,List.map_nil];(repeat' (first|(with_reducible refine WL.fin ?_;refine hK' _ ?_;clear hK' K')|((with_reducible refine WL.step fun K2 hK2=>?_);simp only [simprocAttr,implies_true,amz,tys,hlm,hda];(repeat' (first|with_reducible (first|(refine hK2 _ ?_;clear hK2 K2)|refine And.intro ?_ ?_|intro hb) ))))))|refine T.skip ?_|refine T.exit ?_|refine T.condT rfl ?_|refine T.condF rfl ?_|refine T.cond rfl (fun hc=>?_) (fun hc=>?_)|refine T.ret ?_|simp only [ThenA,InBlock,reduceIte,Nat.reduceEqDiff]|((repeat ((fail_if_success (refine hK _ ?_));clear hK K));refine hK _ ?_;clear hK K))
        refine FinA.ret (.inr rfl) Try.results7 ?_;simp only [ares,aresL,ares1,simprocAttr,implies_true,amz,tys,]
end Go.Proofs.Ytnckehomadnhoaa
