/- Texts Qb, Qk, Ra, Qy, Qr, Qs. -/
import Derived.OpenShut
import Derived.Test.YtnckehomadnhoaaZ08
namespace Go.Proofs.Ytnckehomadnhoaa
open Go.RowKit Go.Sort Go.Maps
set_option linter.unusedSimpArgs false
set_option linter.unusedVariables false
theorem edJ_len (l:List Ev) (j:Nat) : ∀ k,(edJ l j k).length≤k
  | 0=>Nat.le_refl _
  | k + 1=>by
    have:=edJ_len l j k
    rw [edJ,List.length_append]
    split <;> simp <;> omega
theorem edU_len (l:List Ev) (m:Nat) : ∀ j,j≤m→(edU l j).length≤j * m
  | 0,_=>by simp [edU]
  | j + 1,h=>by
    have h1:=edU_len l m j (by omega)
    have h2:=edJ_len l j j
    rw [edU,List.length_append,Nat.add_mul]
    omega
end Go.Proofs.Ytnckehomadnhoaa
namespace Go.Proofs.Ytnckehomadnhoaa
open Go.RowKit Go.Sort
set_option linter.unusedSimpArgs false
set_option linter.unusedVariables false
theorem edgesE_len {l:List Ev} (hl:l.length ≤ 100000):(edgesE l).length ≤ 1000000000000:=by
  have h1:=edU_len l l.length l.length (Nat.le_refl _)
  have h2:l.length * l.length ≤ 100000 * 100000:=Nat.mul_le_mul hl hl
  unfold edgesE
  split
  · omega
  · simp
end Go.Proofs.Ytnckehomadnhoaa
namespace Go.Proofs.Ytnckehomadnhoaa
open Go.RowKit Go.Sort Go.ChangeShapes Go.WideShapes Go.ChangeAt
set_option maxRecDepth 100000
variable {H:Type} {enc:TypeId × Value→H} {W:World} {base:Nat} {spare:Nat→Bool} {held:Bool}
theorem has_u8 {n:Int} (h:IntKind.u8.has n) : 0≤n∧n < 256:=by
  simp only [IntKind.has,IntKind.min,IntKind.max,IntKind.bits,IntKind.signed] at h
  simp at h;omega
theorem open_u8 {r:Reach} {v:Value} (hval:Value.okWide Try.prog W r base 5 v) : ∃ x:Nat,x < 256∧v = .int .u8 (x:Int):=by
  unfold Value.okWide at hval
  rw [show Try.prog.underlying 5=some (.int .u8) by kernel_rfl] at hval
  cases v <;> simp [Cell.okWide,Cell.ok,show Try.prog.underlying 5=some (.int .u8) by kernel_rfl] at hval
  rename_i k n
  obtain ⟨rfl,h⟩:=hval
  have hh:=has_u8 h
  exact ⟨n.toNat,by omega,by rw [show ((n.toNat:Nat):Int)=n by omega]⟩
end Go.Proofs.Ytnckehomadnhoaa
namespace Go.Proofs.Ytnckehomadnhoaa
open Go.RowKit Go.Sort
set_option linter.unusedSimpArgs false
set_option linter.unusedVariables false
def bm (n:Nat) (f:Nat→Bool):List AV:=(List.range n).map fun q => .p (.val (.bool (f q)))
theorem bm_len (n:Nat) (f:Nat→Bool):(bm n f).length=n:=by simp [bm]
theorem bm_at {n q:Nat} (f:Nat→Bool) (h:q < n):(bm n f)[q]? = some (.p (.val (.bool (f q)))):=by
  unfold bm;rw [List.getElem?_map,List.getElem?_range h];rfl
def upB (f:Nat→Bool) (q:Nat) (b:Bool):Nat→Bool:=fun p=>if p=q then b else f p
theorem bm_set {n q:Nat} (f:Nat→Bool) (b:Bool) (h:q < n):(bm n f).take q ++ [.p (.val (.bool b))] ++ (bm n f).drop (q + 1)=bm n (upB f q b):=by
  apply List.ext_getElem?
  intro i
  have hl:((bm n f).take q).length=q:=by simp [bm_len];omega
  by_cases hi:i < n
  · rw [bm_at _ hi]
    unfold upB
    by_cases e:i=q
    · subst e
      rw [if_pos rfl,List.append_assoc,List.getElem?_append_right (by omega),hl];simp
    · rw [if_neg e]
      by_cases hlt:i < q
      · rw [List.append_assoc,List.getElem?_append_left (by omega),List.getElem?_take_of_lt hlt,bm_at _ hi]
      · rw [List.getElem?_append_right (by simp;omega),List.getElem?_drop]
        rw [show q + 1 + (i - ((bm n f).take q ++ [AV.p (.val (.bool b))]).length)=i by simp [bm_len];omega,bm_at _ hi]
  · rw [List.getElem?_eq_none (by simp [bm_len];omega),List.getElem?_eq_none (by simp [bm_len];omega)]
theorem bm_okB {m n:Nat} (f:Nat→Bool):(bm n f).all (AV.okB m)=true:=by
  rw [List.all_eq_true]
  intro x hx
  obtain ⟨q,_,rfl⟩:=List.mem_map.1 hx
  simp [AV.okB]
end Go.Proofs.Ytnckehomadnhoaa
namespace Go.Proofs.Ytnckehomadnhoaa
set_option linter.unusedSimpArgs false
set_option linter.unusedVariables false
def lead (g:Nat→Bool) (E:List Ed):Nat→Bool:=E.foldr (fun e g=>if g e.t.toNat then upB g e.f.toNat true else g) g
theorem lead_app (g:Nat→Bool) (A B:List Ed):lead g (A ++ B)=lead (lead g B) A:=by
  unfold lead;rw [List.foldr_append]
theorem lead_one (g:Nat→Bool) (e:Ed):lead g [e]=if g e.t.toNat then upB g e.f.toNat true else g:=rfl
theorem lead_J (l:List Ev) (m:Nat) : ∀ (k:Nat) (g:Nat→Bool),k≤m→lead g (edJ l m k)=fun a=>g a || (decide (a < k) && immL l a m && g m)
  | 0,g,_=>by funext a;simp [edJ,lead]
  | k + 1,g,h=>by
    rw [edJ,lead_app]
    have hkm:k ≠ m:=by omega
    cases hi:immL l k m with
    | false =>
      rw [if_neg (by simp),show lead g []=g from rfl,lead_J l m k g (by omega)]
      funext a
      by_cases e:a=k
      · subst e;simp [hi]
      · have:decide (a < k + 1)=decide (a < k):=by congr 1;simp;omega
        rw [this]
    | true =>
      rw [if_pos rfl,lead_one]
      simp only [Int.toNat_natCast]
      cases hg:g m with
      | false =>
        rw [if_neg (by simp [hg]),lead_J l m k g (by omega)]
        funext a
        simp [hg]
      | true =>
        rw [if_pos rfl,lead_J l m k _ (by omega)]
        funext a
        by_cases e:a=k
        · subst e;simp [upB,hi,hg]
        · have:decide (a < k + 1)=decide (a < k):=by congr 1;simp;omega
          rw [this]
          simp [upB,e,hkm,Ne.symm hkm,hg]
def ledB (l:List Ev) (j n a:Nat):Bool:=(a == j) || (List.range l.length).any fun y=>decide (n≤y) && (decide (a < y) && (immL l a y && ((y == j) || hbB l j y)))
theorem ledB_iff {l:List Ev} {j n a:Nat} : ledB l j n a=true↔a=j ∨ ∃ y,y < l.length∧n≤y∧a < y∧immL l a y=true∧(y=j∨hbB l j y=true):=by
  unfold ledB
  rw [Bool.or_eq_true,List.any_eq_true]
  simp only [beq_iff_eq,List.mem_range,Bool.and_eq_true,decide_eq_true_eq,Bool.or_eq_true]
theorem hb_left {l:List Ev} : ∀ (j:Nat) {a:Nat},hbB l j a=true ↔ ∃ y,a < y∧y≤j∧immL l a y=true∧(y=j∨hbB l j y=true):=by
  intro j
  induction j using Nat.strongRecOn with
  | ind j ih =>
    intro a
    constructor
    · intro h
      rw [hbB_iff] at h
      obtain ⟨i,h1,h2,h3⟩:=h
      rcases h3 with rfl|⟨h3,h4⟩
      · exact ⟨j,h1,Nat.le_refl _,h2,.inl rfl⟩
      · obtain ⟨y,k1,k2,k3,k4⟩:=(ih i h1).1 h4
        refine ⟨y,k1,by omega,k3,.inr ?_⟩
        rw [hbB_iff]
        rcases k4 with rfl|k4
        · exact ⟨y,h1,h2,.inl rfl⟩
        · exact ⟨i,h1,h2,.inr ⟨hbB_lt _ _ _ k4,k4⟩⟩
    · rintro ⟨y,k1,k2,k3,k4⟩
      rcases k4 with rfl|k4
      · exact hb_imm k1 k3
      · exact hb_trans j k4 (hb_imm k1 k3)
theorem led_zero {l:List Ev} {j a:Nat} (hj:j < l.length):ledB l j 0 a=((a == j) || hbB l j a):=by
  rw [Bool.eq_iff_iff,ledB_iff,Bool.or_eq_true,beq_iff_eq,hb_left]
  refine or_congr Iff.rfl ?_
  constructor
  · rintro ⟨y,h1,h2,h3,h4,h5⟩
    refine ⟨y,h3,?_,h4,h5⟩
    rcases h5 with rfl|h5
    · exact Nat.le_refl _
    · exact Nat.le_of_lt (hbB_lt _ _ _ h5)
  · rintro ⟨y,h1,h2,h3,h4⟩
    exact ⟨y,by omega,Nat.zero_le _,h1,h3,h4⟩
theorem led_end (l:List Ev) (j:Nat):ledB l j l.length=fun a=>a == j:=by
  funext a
  rw [Bool.eq_iff_iff,ledB_iff,beq_iff_eq]
  constructor
  · rintro (h|⟨y,h1,h2,_⟩)
    · exact h
    · omega
  · exact .inl
theorem led_self {l:List Ev} {j n:Nat} : ledB l j (n + 1) n=true↔(n=j∨(hbB l j n=true ∧ ∃ y,y < l.length∧n < y∧immL l n y=true∧(y=j∨hbB l j y=true))):=by
  rw [ledB_iff]
  refine or_congr Iff.rfl ?_
  constructor
  · rintro ⟨y,h1,h2,h3,h4,h5⟩
    refine ⟨?_,y,h1,h3,h4,h5⟩
    rcases h5 with rfl|h5
    · exact hb_imm h3 h4
    · exact hb_trans j h5 (hb_imm h3 h4)
  · rintro ⟨_,y,h1,h2,h3,h4⟩
    exact ⟨y,h1,h2,h2,h3,h4⟩
theorem led_step {l:List Ev} {j n:Nat} (hj:j < l.length) (hn:n < l.length):lead (ledB l j (n + 1)) (edJ l n n)=ledB l j n:=by
  rw [lead_J l n n _ (Nat.le_refl _)]
  funext a
  rw [Bool.eq_iff_iff]
  simp only [Bool.or_eq_true,Bool.and_eq_true,decide_eq_true_eq]
  have hself:ledB l j (n + 1) n=true↔n=j∨hbB l j n=true:=by
    rw [led_self]
    refine or_congr Iff.rfl ?_
    constructor
    · exact fun h=>h.1
    · intro h
      refine ⟨h,?_⟩
      obtain ⟨y,k1,k2,k3,k4⟩:=(hb_left j).1 h
      exact ⟨y,by omega,k1,k3,k4⟩
  rw [hself,ledB_iff,ledB_iff]
  constructor
  · rintro ((h|⟨y,h1,h2,h3,h4,h5⟩)|⟨⟨h1,h2⟩,h3⟩)
    · exact .inl h
    · exact .inr ⟨y,h1,by omega,h3,h4,h5⟩
    · exact .inr ⟨n,hn,Nat.le_refl _,h1,h2,h3⟩
  · rintro (h|⟨y,h1,h2,h3,h4,h5⟩)
    · exact .inl (.inl h)
    · by_cases e:y=n
      · subst e;exact .inr ⟨⟨h3,h4⟩,h5⟩
      · exact .inl (.inr ⟨y,h1,by omega,h3,h4,h5⟩)
theorem led_U {l:List Ev} {j:Nat} (hj:j < l.length) : ∀ n,n≤l.length→lead (ledB l j n) (edU l n)=ledB l j 0
  | 0,_=>rfl
  | n + 1,h=>by rw [edU,lead_app,led_step hj (by omega),led_U hj n (by omega)]
theorem lead_all {l:List Ev} {j:Nat} (hj:j < l.length):lead (fun a=>a == j) (edU l l.length)=ledB l j 0:=by
  rw [← led_end];exact led_U hj _ (Nat.le_refl _)
theorem edU_ends {l:List Ev} {n:Nat} {e:Ed} (h:e ∈ edU l n) : ∃ i j:Nat,i < j∧j < n∧e.f=i∧e.t=j:=by
  obtain ⟨j,i,h1,h2,_,rfl⟩:=edU_mem.1 h
  exact ⟨i,j,h2,h1,rfl,rfl⟩
theorem rgF_none {p:Nat→Bool} {n:Nat} : ∀ {d:Nat},(∀ i,n≤i→p i=false)→rgF p (n + d)=rgF p n
  | 0,_=>rfl
  | d + 1,h=>by rw [← Nat.add_assoc,rgF_succ,h (n + d) (by omega),if_neg (by simp),List.append_nil,rgF_none h]
theorem cone_rgF {l:List Ev} (hv:(checkB l).2=true) {j:Nat} (hj:j < l.length):coneO l j=rgF (ledB l j 0) l.length:=by
  rw [cone_eq]
  unfold coneR
  have d1:decide ((j:Int) < 0)=false:=by simp
  have d2:decide ((l.length:Int)≤(j:Int))=false:=by simp;omega
  rw [hv,d1,d2]
  simp only [Bool.not_false,Bool.and_self,if_true,Int.toNat_natCast]
  have hz : ∀ i,j + 1≤i→ledB l j 0 i=false:=fun i hi=>by
    rw [led_zero hj]
    have:hbB l j i=false:=by
      cases h:hbB l j i with
      | false=>rfl
      | true=>have:=hbB_lt _ _ _ h;omega
    rw [this];simp;omega
  have:=rgF_none (n:=j + 1) (d:=l.length - (j + 1)) hz
  rw [show j + 1 + (l.length - (j + 1))=l.length by omega] at this
  rw [this,rgF_succ,led_zero hj]
  simp only [beq_self_eq_true,Bool.true_or,if_true]
  congr 1
  refine rgF_congr fun i hi=>?_
  rw [led_zero hj]
  have:(i == j)=false:=by simp;omega
  rw [this];simp
theorem rgF_at {p:Nat→Bool} {n i:Nat} (hi:i < n) (hp:p i=true):(rgF p n)[(rgF p i).length]? = some i:=by
  obtain ⟨d,rfl⟩ : ∃ d,n=i + 1 + d:=⟨n - (i + 1),by omega⟩
  have : ∀ d,∃ r,rgF p (i + 1 + d)=rgF p i ++ [i] ++ r:=by
    intro d
    induction d with
    | zero=>exact ⟨[],by rw [Nat.add_zero,rgF_succ,hp];simp⟩
    | succ d ih =>
      obtain ⟨r,hr⟩:=ih
      rw [← Nat.add_assoc,rgF_succ,hr]
      exact ⟨r ++ if p (i + 1 + d) then [i + 1 + d] else [],by rw [List.append_assoc]⟩
  obtain ⟨r,hr⟩:=this d
  rw [hr];simp
end Go.Proofs.Ytnckehomadnhoaa
namespace Go.Proofs.Ytnckehomadnhoaa
open Go.RowKit Go.Sort
set_option linter.unusedSimpArgs false
set_option linter.unusedVariables false
theorem z24 : [AV.p (.val (.bool false)),AV.p (.val (.bool false)),AV.p (.val (.bool false)),AV.p (.val (.bool false)),AV.p (.val (.bool false)),AV.p (.val (.bool false)),AV.p (.val (.bool false)),AV.p (.val (.bool false)),AV.p (.val (.bool false)),AV.p (.val (.bool false)),AV.p (.val (.bool false)),AV.p (.val (.bool false)),AV.p (.val (.bool false)),AV.p (.val (.bool false)),AV.p (.val (.bool false)),AV.p (.val (.bool false)),AV.p (.val (.bool false)),AV.p (.val (.bool false)),AV.p (.val (.bool false)),AV.p (.val (.bool false)),AV.p (.val (.bool false)),AV.p (.val (.bool false)),AV.p (.val (.bool false)),AV.p (.val (.bool false))]=bm 24 fun _=>false:=rfl
theorem ars24:arrSz Try.prog 47=some (24,1):=by kernel_rfl
theorem iv_toNat (m:Nat):(iv (m + 1)).toNat=m:=by unfold iv;omega
theorem iv_ge (m:Nat):(0:Int)≤iv (m + 1):=by unfold iv;omega
theorem iv_neg:decide ((0:Int)≤iv 0)=false:=by decide
theorem iv_wrap {m:Nat} (h:m ≤ 1000000000000):IntKind.i64.wrap (iv (m + 1) - 1)=iv m:=by
  have:iv (m + 1) - 1=iv m:=by unfold iv;omega
  rw [this]
  exact wrap_ok (by unfold iv;omega) (by unfold iv;omega)
theorem iv_len {m:Nat} (h:m ≤ 1000000000000):IntKind.i64.wrap ((m:Int) - 1)=iv m:=by
  unfold iv
  exact wrap_ok (by omega) (by omega)
theorem lead_drop {g:Nat→Bool} {E:List Ed} {m:Nat} {e:Ed} (h:E[m]? = some e):lead g (E.drop m)=if (lead g (E.drop (m + 1))) e.t.toNat then upB (lead g (E.drop (m + 1))) e.f.toNat true else lead g (E.drop (m + 1)):=by
  rw [drop_at h];rfl
set_option maxHeartbeats 8000000 in
set_option maxRecDepth 100000 in
theorem lawClosed_ok (l:List Ev) (j:Nat) (h256:j < 256):PureC Try.prog 9 [.p (.seq 9 (l.map evC)),.p (.val (.int .u8 (j:Int)))] (.bool true):=by
  have hw:=awake_ok
  have hlm:(l.map evC).length=l.length:=by simp
  have hxw:IntKind.i64.wrap (j:Int)=(j:Int):=wrap_ok (by omega) (by omega)
  by_cases hn:l.length ≤ 24
  case neg =>
    have hg:decide ((24:Int) < (l.length:Int))=true:=by simp;omega
    refine PureC.of Try.func9 rfl 105 rfl (by decide) (by simp [AV.okB]) ?_
    repeat' (first|refine T.seqK fun K hK=>?_|refine T.block ?_|(refine T.reg (by kernel_rfl) fun K' hK'=>?_;simp only [startSt,frOf,List.map_cons,List.map_nil];(repeat' (first|(with_reducible refine WL.fin ?_;refine hK' _ ?_;clear hK' K')|((with_reducible refine WL.step fun K2 hK2=>?_);simp only [simprocAttr,implies_true,amz,tys,hlm,hg,hxw,Option.isSome_some];(repeat' (first|with_reducible (first|(refine hK2 _ ?_;clear hK2 K2)|refine And.intro ?_ ?_|intro hb)|((first|(with_reducible apply callArmO)|(with_reducible apply callArm));case h=>exact CallV.plain (Ent.of Try.func12 (by kernel_rfl) rfl) (hw) (by simp [AV.okB]))))))))|refine T.skip ?_|refine T.exit ?_|refine T.condT rfl ?_|refine T.condF rfl ?_|refine T.cond rfl (fun hc=>?_) (fun hc=>?_)|refine T.ret ?_|simp only [ThenA,InBlock,reduceIte,Nat.reduceEqDiff]|((repeat ((fail_if_success (refine hK _ ?_));clear hK K));refine hK _ ?_;clear hK K))
    all_goals (refine FinA.ret (.inr rfl) Try.results9 ?_;simp only [ares,aresL,ares1,simprocAttr,implies_true,amz,tys,])
  have hg:decide ((24:Int) < (l.length:Int))=false:=by simp;omega
  have hv:=validT_ok l (by omega)
  by_cases hjn:j < l.length
  case neg =>
    have hg1:decide ((l.length:Int)≤(j:Int))=true:=by simpa using hjn
    refine PureC.of Try.func9 rfl 105 rfl (by decide) (by simp [AV.okB]) ?_
    repeat' (first|refine T.seqK fun K hK=>?_|refine T.block ?_|(refine T.reg (by kernel_rfl) fun K' hK'=>?_;simp only [startSt,frOf,List.map_cons,List.map_nil];(repeat' (first|(with_reducible refine WL.fin ?_;refine hK' _ ?_;clear hK' K')|((with_reducible refine WL.step fun K2 hK2=>?_);simp only [simprocAttr,implies_true,amz,tys,hlm,hg,hg1,hxw,Option.isSome_some];(repeat' (first|with_reducible (first|(refine hK2 _ ?_;clear hK2 K2)|refine And.intro ?_ ?_|intro hb)|((first|(with_reducible apply callArmO)|(with_reducible apply callArm));case h=>exact CallV.plain (Ent.of Try.func12 (by kernel_rfl) rfl) (hw) (by simp [AV.okB]))|((first|(with_reducible apply callArmO)|(with_reducible apply callArm));case h=>exact CallV.plain (Ent.of Try.func18 (by kernel_rfl) rfl) (hv) (by simp [AV.okB]))))))))|refine T.skip ?_|refine T.exit ?_|refine T.condT rfl ?_|refine T.condF rfl ?_|refine T.cond rfl (fun hc=>?_) (fun hc=>?_)|refine T.ret ?_|simp only [ThenA,InBlock,reduceIte,Nat.reduceEqDiff]|((repeat ((fail_if_success (refine hK _ ?_));clear hK K));refine hK _ ?_;clear hK K))
    all_goals (refine FinA.ret (.inr rfl) Try.results9 ?_;simp only [ares,aresL,ares1,simprocAttr,implies_true,amz,tys,])
  have hg1:decide ((l.length:Int)≤(j:Int))=false:=by simp;omega
  cases h5:(checkB l).2 with
  | false =>
    rw [h5] at hv
    refine PureC.of Try.func9 rfl 105 rfl (by decide) (by simp [AV.okB]) ?_
    repeat' (first|refine T.seqK fun K hK=>?_|refine T.block ?_|(refine T.reg (by kernel_rfl) fun K' hK'=>?_;simp only [startSt,frOf,List.map_cons,List.map_nil];(repeat' (first|(with_reducible refine WL.fin ?_;refine hK' _ ?_;clear hK' K')|((with_reducible refine WL.step fun K2 hK2=>?_);simp only [simprocAttr,implies_true,amz,tys,hlm,hg,hg1,hxw,Option.isSome_some];(repeat' (first|with_reducible (first|(refine hK2 _ ?_;clear hK2 K2)|refine And.intro ?_ ?_|intro hb)|((first|(with_reducible apply callArmO)|(with_reducible apply callArm));case h=>exact CallV.plain (Ent.of Try.func12 (by kernel_rfl) rfl) (hw) (by simp [AV.okB]))|((first|(with_reducible apply callArmO)|(with_reducible apply callArm));case h=>exact CallV.plain (Ent.of Try.func18 (by kernel_rfl) rfl) (hv) (by simp [AV.okB]))))))))|refine T.skip ?_|refine T.exit ?_|refine T.condT rfl ?_|refine T.condF rfl ?_|refine T.cond rfl (fun hc=>?_) (fun hc=>?_)|refine T.ret ?_|simp only [ThenA,InBlock,reduceIte,Nat.reduceEqDiff]|((repeat ((fail_if_success (refine hK _ ?_));clear hK K));refine hK _ ?_;clear hK K))
    all_goals (refine FinA.ret (.inr rfl) Try.results9 ?_;simp only [ares,aresL,ares1,simprocAttr,implies_true,amz,tys,])
  | true =>
    rw [h5] at hv
    have he:=edges_ok l (by omega)
    have hcn:=cone_ok l (by omega) j
    rw [cone_rgF h5 hjn] at hcn
    have hE:edgesE l=edU l l.length:=by simp [edgesE,h5]
    have hz:errE l=0:=by simp [errE,h5]
    have hEl:=edgesE_len (l:=l) (by omega)
    have hall:=lead_all (l:=l) hjn
    have hends : ∀ e ∈ edU l l.length,∃ i j:Nat,i < j∧j < l.length∧e.f=i∧e.t=j:=fun e h=>edU_ends h
    rw [hE,hz] at he
    rw [hE] at hEl
    generalize edU l l.length=E at he hEl hall hends
    obtain ⟨g0,hg0⟩ : ∃ g0:Nat→Bool,g0=fun a=>a == j:=⟨_,rfl⟩
    have hup:upB (fun _=>false) j true=g0:=by
      rw [hg0];funext a;unfold upB
      by_cases e:a=j
      · simp [e]
      · simp [e]
    rw [← hg0] at hall
    have hj24:j < 24:=by omega
    have hj0:(0:Int)≤(j:Int):=by omega
    have hb0:=bm_set (n := 24) (fun _=>false) true hj24
    rw [hup] at hb0
    have hjl:j + 1 ≤ 24:=hj24
    refine PureC.of Try.func9 rfl 105 rfl (by decide) (by simp [AV.okB]) ?_
    repeat' (first|refine T.seqK fun K hK=>?_|refine T.block ?_|(refine T.reg (by kernel_rfl) fun K' hK'=>?_;simp only [startSt,frOf,List.map_cons,List.map_nil];(repeat' (first|(with_reducible refine WL.fin ?_;refine hK' _ ?_;clear hK' K')|((with_reducible refine WL.step fun K2 hK2=>?_);simp only [simprocAttr,implies_true,amz,tys,hlm,hg,hg1,hxw,Option.isSome_some,z24,ars24,bm_len,Int.toNat_natCast,hj0,hj24,hb0,hjl,Nat.mul_one,Nat.zero_add,rowE_len,iv_len hEl,beq_self_eq_true,Bool.not_true];(repeat' (first|with_reducible (first|(refine hK2 _ ?_;clear hK2 K2)|refine And.intro ?_ ?_|intro hb)|((first|(with_reducible apply callArmO)|(with_reducible apply callArm));case h=>exact CallV.plain (Ent.of Try.func12 (by kernel_rfl) rfl) (hw) (by simp [AV.okB]))|((first|(with_reducible apply callArmO)|(with_reducible apply callArm));case h=>exact CallV.plain (Ent.of Try.func18 (by kernel_rfl) rfl) (hv) (by simp [AV.okB]))|((first|(with_reducible apply callArmO)|(with_reducible apply callArm));case h=>exact CallV.plain (Ent.of Try.func13 (by kernel_rfl) rfl) (he) (by simp [AV.okB]))))))))|refine T.skip ?_|refine T.exit ?_|refine T.condT rfl ?_|refine T.condF rfl ?_|refine T.cond rfl (fun hc=>?_) (fun hc=>?_)|refine T.ret ?_|simp only [ThenA,InBlock,reduceIte,Nat.reduceEqDiff]|((repeat ((fail_if_success (refine hK _ ?_));clear hK K));refine hK _ ?_;clear hK K))
    refine T.loopK (fun k:Nat=>⟨[(0,.p (.seq 9 (l.map evC))),(1,.p (.val (.int .u8 (j:Int)))),(5,.p (.seq 3 (rowE E))),(7,.ptr 0 0),(8,.int (iv k))],[(0,.boxP none 47 (bm 24 (lead g0 (E.drop k))))],105,1⟩) (fun k=>k≤E.length) (fun k=>k) E.length (Nat.le_refl _) (by rw [List.drop_eq_nil_of_le (Nat.le_refl _)];refine Weak.of' rfl ?_;simp only [wks,reduceIte,Nat.reduceEqDiff,ASt.okB,AV.okB,Nat.reduceLT,implies_true,lead,List.foldr_nil,bm_okB]) ?_
    intro k hk KL hKL
    cases k with
    | succ m =>
      obtain ⟨e,hem⟩:=at_lt (show m < E.length by omega)
      obtain ⟨f,t,hft,htl,hef,het⟩:=hends e (List.mem_of_getElem? hem)
      have m1:=rowE_at hem
      have hed:edC e = [.val (.int .i64 (f:Int)),.val (.int .i64 (t:Int)),.val (.int .i64 e.k)]:=by rw [edC,hef,het]
      have hst:=lead_drop (g:=g0) hem
      rw [hef,het,Int.toNat_natCast,Int.toNat_natCast] at hst
      obtain ⟨g,hgg⟩ : ∃ g,g=lead g0 (E.drop (m + 1)):=⟨_,rfl⟩
      rw [← hgg] at hst ⊢
      have d0:decide ((0:Int)≤iv (m + 1))=true:=by simpa using iv_ge m
      have d1:decide ((f:Int) < 0)=false:=by simp
      have d2:decide ((t:Int)≤(f:Int))=false:=by simp;omega
      have d3:decide ((l.length:Int)≤(t:Int))=false:=by simp;omega
      have ht24:t < 24:=by omega
      have hf24:f < 24:=by omega
      have hf25:f + 1 ≤ 24:=hf24
      have ht0:(0:Int)≤(t:Int):=by omega
      have hf0:(0:Int)≤(f:Int):=by omega
      have gt:=bm_at g ht24
      have gs:=bm_set g true hf24
      cases hgt:g t with
      | true =>
        rw [hgt,if_pos rfl] at hst
        rw [hgt] at gt
        repeat' (first|refine T.seqK fun K hK=>?_|refine T.block ?_|(refine T.reg (by kernel_rfl) fun K' hK'=>?_;simp only [startSt,frOf,List.map_cons,List.map_nil];(repeat' (first|(with_reducible refine WL.fin ?_;refine hK' _ ?_;clear hK' K')|((with_reducible refine WL.step fun K2 hK2=>?_);simp only [simprocAttr,implies_true,amz,tys,d0,d1,d2,d3,rowE_len,m1,hed,hlm,iv_ge,iv_toNat,ars24,Int.toNat_natCast,ht0,hf0,ht24,hf24,hf25,gt,gs,bm_len,Nat.mul_one,Nat.zero_add];(repeat' (first|with_reducible (first|(refine hK2 _ ?_;clear hK2 K2)|refine And.intro ?_ ?_|intro hb) ))))))|refine T.skip ?_|refine T.exit ?_|refine T.condT rfl ?_|refine T.condF rfl ?_|refine T.cond rfl (fun hc=>?_) (fun hc=>?_)|refine T.ret ?_|simp only [ThenA,InBlock,reduceIte,Nat.reduceEqDiff]|((repeat ((fail_if_success (refine hK _ ?_));clear hK K));refine hK _ ?_;clear hK K))
        refine hKL _ m ?_ (by omega) (by omega)
        rw [hst]
        refine Weak.of' rfl ?_;simp only [wks,reduceIte,Nat.reduceEqDiff,ASt.okB,AV.okB,Nat.reduceLT,implies_true,iv_wrap (show m ≤ 1000000000000 by omega),bm_okB]
      | false =>
        rw [hgt,if_neg (by simp)] at hst
        rw [hgt] at gt
        repeat' (first|refine T.seqK fun K hK=>?_|refine T.block ?_|(refine T.reg (by kernel_rfl) fun K' hK'=>?_;simp only [startSt,frOf,List.map_cons,List.map_nil];(repeat' (first|(with_reducible refine WL.fin ?_;refine hK' _ ?_;clear hK' K')|((with_reducible refine WL.step fun K2 hK2=>?_);simp only [simprocAttr,implies_true,amz,tys,d0,d1,d2,d3,rowE_len,m1,hed,hlm,iv_ge,iv_toNat,ars24,Int.toNat_natCast,ht0,hf0,ht24,hf24,gt,bm_len,Nat.mul_one,Nat.zero_add];(repeat' (first|with_reducible (first|(refine hK2 _ ?_;clear hK2 K2)|refine And.intro ?_ ?_|intro hb) ))))))|refine T.skip ?_|refine T.exit ?_|refine T.condT rfl ?_|refine T.condF rfl ?_|refine T.cond rfl (fun hc=>?_) (fun hc=>?_)|refine T.ret ?_|simp only [ThenA,InBlock,reduceIte,Nat.reduceEqDiff]|((repeat ((fail_if_success (refine hK _ ?_));clear hK K));refine hK _ ?_;clear hK K))
        refine hKL _ m ?_ (by omega) (by omega)
        rw [hst]
        refine Weak.of' rfl ?_;simp only [wks,reduceIte,Nat.reduceEqDiff,ASt.okB,AV.okB,Nat.reduceLT,implies_true,iv_wrap (show m ≤ 1000000000000 by omega),bm_okB]
    | zero =>
      rw [List.drop_zero,hall]
      obtain ⟨p,hp⟩ : ∃ p,p=ledB l j 0:=⟨_,rfl⟩
      rw [← hp] at hcn ⊢
      repeat' (first|refine T.seqK fun K hK=>?_|refine T.block ?_|(refine T.reg (by kernel_rfl) fun K' hK'=>?_;simp only [startSt,frOf,List.map_cons,List.map_nil];(repeat' (first|(with_reducible refine WL.fin ?_;refine hK' _ ?_;clear hK' K')|((with_reducible refine WL.step fun K2 hK2=>?_);simp only [simprocAttr,implies_true,amz,tys,iv_neg,hxw,Option.isSome_some];(repeat' (first|with_reducible (first|(refine hK2 _ ?_;clear hK2 K2)|refine And.intro ?_ ?_|intro hb)|((first|(with_reducible apply callArmO)|(with_reducible apply callArm));case h=>exact CallV.plain (Ent.of Try.func21 (by kernel_rfl) rfl) (hcn) (by simp [AV.okB]))))))))|refine T.skip ?_|refine T.exit ?_|refine T.condT rfl ?_|refine T.condF rfl ?_|refine T.cond rfl (fun hc=>?_) (fun hc=>?_)|refine T.ret ?_|simp only [ThenA,InBlock,reduceIte,Nat.reduceEqDiff]|((repeat ((fail_if_success (refine hK _ ?_));clear hK K));refine hK _ ?_;clear hK K))
      refine T.loopK (fun i:Nat=>⟨[(0,.p (.seq 9 (l.map evC))),(7,.ptr 0 0),(10,.p (.seq 1 (rowI (rgF p l.length)))),(11,.int ((rgF p i).length:Int)),(12,.int i)],[(0,.boxP none 47 (bm 24 p))],105,1⟩) (fun i=>i≤l.length) (fun i=>l.length - i) 0 (Nat.zero_le _) (by refine Weak.of' rfl ?_;simp only [wks,reduceIte,Nat.reduceEqDiff,ASt.okB,AV.okB,Nat.reduceLT,implies_true,bm_okB,rgF_zero,List.length_nil,Int.natCast_zero]) ?_
      intro i hi KL2 hKL2
      have hil:=rgF_len p i
      by_cases hin:i < l.length
      · have hd:decide ((i:Int) < (l.length:Int))=true:=by simpa using hin
        have hi24:i < 24:=by omega
        have hi0:(0:Int)≤(i:Int):=by omega
        have pt:=bm_at p hi24
        have hnx:=rgF_succ p i
        cases hpi:p i with
        | true =>
          have q1:=rgF_at hin hpi
          have m1:=rowI_at q1
          have q2:=(List.getElem?_eq_some_iff.1 q1).1
          have d1:decide (((rgF p l.length).length:Int)≤((rgF p i).length:Int))=false:=by simp;omega
          have q3:(rgF p (i + 1)).length=(rgF p i).length + 1:=by rw [hnx,hpi];simp
          rw [hpi] at pt
          repeat' (first|refine T.seqK fun K hK=>?_|refine T.block ?_|(refine T.reg (by kernel_rfl) fun K' hK'=>?_;simp only [startSt,frOf,List.map_cons,List.map_nil];(repeat' (first|(with_reducible refine WL.fin ?_;refine hK' _ ?_;clear hK' K')|((with_reducible refine WL.step fun K2 hK2=>?_);simp only [simprocAttr,implies_true,amz,tys,hlm,hd,hi24,hi0,pt,bm_len,ars24,Int.toNat_natCast,Nat.mul_one,Nat.zero_add,rowI_len,d1,m1,beq_self_eq_true,Bool.not_true,bne_self_eq_false];(repeat' (first|with_reducible (first|(refine hK2 _ ?_;clear hK2 K2)|refine And.intro ?_ ?_|intro hb) ))))))|refine T.skip ?_|refine T.exit ?_|refine T.condT rfl ?_|refine T.condF rfl ?_|refine T.cond rfl (fun hc=>?_) (fun hc=>?_)|refine T.ret ?_|simp only [ThenA,InBlock,reduceIte,Nat.reduceEqDiff]|((repeat ((fail_if_success (refine hK _ ?_));clear hK K));refine hK _ ?_;clear hK K))
          refine hKL2 _ (i + 1) ?_ (by omega) (by omega)
          rw [q3]
          refine Weak.of' rfl ?_;simp only [wks,reduceIte,Nat.reduceEqDiff,ASt.okB,AV.okB,Nat.reduceLT,implies_true,wrap_succ (show i < 1152921504606846976 by omega),wrap_succ (show (rgF p i).length < 1152921504606846976 by omega),bm_okB]
        | false =>
          have q3:rgF p (i + 1)=rgF p i:=by rw [hnx,hpi];simp
          rw [hpi] at pt
          repeat' (first|refine T.seqK fun K hK=>?_|refine T.block ?_|(refine T.reg (by kernel_rfl) fun K' hK'=>?_;simp only [startSt,frOf,List.map_cons,List.map_nil];(repeat' (first|(with_reducible refine WL.fin ?_;refine hK' _ ?_;clear hK' K')|((with_reducible refine WL.step fun K2 hK2=>?_);simp only [simprocAttr,implies_true,amz,tys,hlm,hd,hi24,hi0,pt,bm_len,ars24,Int.toNat_natCast,Nat.mul_one,Nat.zero_add];(repeat' (first|with_reducible (first|(refine hK2 _ ?_;clear hK2 K2)|refine And.intro ?_ ?_|intro hb) ))))))|refine T.skip ?_|refine T.exit ?_|refine T.condT rfl ?_|refine T.condF rfl ?_|refine T.cond rfl (fun hc=>?_) (fun hc=>?_)|refine T.ret ?_|simp only [ThenA,InBlock,reduceIte,Nat.reduceEqDiff]|((repeat ((fail_if_success (refine hK _ ?_));clear hK K));refine hK _ ?_;clear hK K))
          refine hKL2 _ (i + 1) ?_ (by omega) (by omega)
          rw [q3]
          refine Weak.of' rfl ?_;simp only [wks,reduceIte,Nat.reduceEqDiff,ASt.okB,AV.okB,Nat.reduceLT,implies_true,wrap_succ (show i < 1152921504606846976 by omega),bm_okB]
      · have hd:decide ((i:Int) < (l.length:Int))=false:=by simpa using hin
        have hie:i=l.length:=by omega
        subst hie
        repeat' (first|refine T.seqK fun K hK=>?_|refine T.block ?_|(refine T.reg (by kernel_rfl) fun K' hK'=>?_;simp only [startSt,frOf,List.map_cons,List.map_nil];(repeat' (first|(with_reducible refine WL.fin ?_;refine hK' _ ?_;clear hK' K')|((with_reducible refine WL.step fun K2 hK2=>?_);simp only [simprocAttr,implies_true,amz,tys,hlm,hd,rowI_len,beq_self_eq_true];(repeat' (first|with_reducible (first|(refine hK2 _ ?_;clear hK2 K2)|refine And.intro ?_ ?_|intro hb) ))))))|refine T.skip ?_|refine T.exit ?_|refine T.condT rfl ?_|refine T.condF rfl ?_|refine T.cond rfl (fun hc=>?_) (fun hc=>?_)|refine T.ret ?_|simp only [ThenA,InBlock,reduceIte,Nat.reduceEqDiff]|((repeat ((fail_if_success (refine hK _ ?_));clear hK K));refine hK _ ?_;clear hK K))
        refine FinA.ret (.inr rfl) Try.results9 ?_;simp only [ares,aresL,ares1,simprocAttr,implies_true,amz,tys,]
end Go.Proofs.Ytnckehomadnhoaa
