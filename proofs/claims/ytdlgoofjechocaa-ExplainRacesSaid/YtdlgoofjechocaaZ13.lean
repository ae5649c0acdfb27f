/- Texts Ur, Us, Law, Ra, Ug, Uv, Ut. -/
import Derived.ProofKit
import Derived.HandedShaped
import Derived.OpenShut
import Derived.Test.YtdlgoofjechocaaZ12
set_option maxHeartbeats 32000000
set_option maxRecDepth 100000
set_option linter.unusedSimpArgs false
set_option linter.unusedVariables false
namespace Go.Proofs.Ytdlgoofjechocaa
open Go.RowKit Go.Sort
theorem z4P:zq Try.prog 9 [] (.bool true):=by
 have h1:=z1C xlL 2 5 (by decide)
 have h2:=z1C xmL 1 2 (by decide)
 have h3:=z9g true [2,3,4,5] (by decide)
 have h4:=z9g false [0,2] (by decide)
 have h5:=z7J xmL 1 2 false (zs [0,2]) (by decide) (by decide)
 have x1:expX xlL 2 5=0:=by simp [expX,xl_plc]
 have x2:expX xmL 1 2=0:=by simp [expX,z9X]
 rw [xl_o,xl_e,x1] at h1
 rw [xm_o,xm_e,x2] at h2
 rw [xm_c] at h5
 simp only [xlL,xmL,rsnN,rsnA,qw,rowZ,zs,List.map_cons,List.map_nil,evC,Int.natCast_zero,show ((1:Nat):Int)=1 from rfl,show ((2:Nat):Int)=2 from rfl,show ((3:Nat):Int)=3 from rfl,show ((4:Nat):Int)=4 from rfl,show ((5:Nat):Int)=5 from rfl] at h1 h2 h3 h4 h5
 have b6 : 6≤maxLen:=by unfold maxLen;omega
 have b4 : 4≤maxLen:=by unfold maxLen;omega
 have b3 : 3≤maxLen:=by unfold maxLen;omega
 have b2 : 2≤maxLen:=by unfold maxLen;omega
 refine zq.of Try.func9 rfl 57 rfl (by decide) (by simp [AV.okB]) ?_
 repeat' (first|refine T.zh fun K hK=>?_|refine T.block ?_|(refine T.reg (by kernel_rfl) fun K' hK'=>?_;simp only [bz];(repeat' (first|(with_reducible refine WL.fin ?_;refine hK' _ ?_;clear hK' K')|((with_reducible refine WL.step fun K2 hK2=>?_);simp only [simprocAttr,implies_true,amz,tys,b2,b4,b6,aeqF,scEq,Bool.and_self,beq_self_eq_true,Int.reduceBEq,Int.reduceToNat,List.getElem?_cons_zero,List.getElem?_cons_succ,Int.reduceLT,Int.reduceLE,Nat.reduceLT,Nat.reduceAdd,List.length_cons,List.length_nil,decide_true,decide_false,Int.toNat_one];(repeat' (first|with_reducible (first|(refine hK2 _ ?_;clear hK2 K2)|refine And.intro ?_ ?_|intro hb)|((first|(with_reducible apply zg)|(with_reducible apply zl));case h=>exact CallV.plain (Ent.of Try.func10 (by kernel_rfl) rfl) (h1) (by simp [AV.okB]))))))))|refine T.skip ?_|refine T.exit ?_|refine T.zf rfl ?_|refine T.ze rfl ?_|refine T.cond rfl (fun hc=>?_) (fun hc=>?_)|refine T.ret ?_|simp only [za,z8,reduceIte,Nat.reduceEqDiff]|((repeat ((fail_if_success (refine hK _ ?_));clear hK K));refine hK _ ?_;clear hK K))
 refine T.drw 9 (by kernel_rfl) (by kernel_rfl) fun K' hK'=>?_;simp only [List.map_cons,List.map_nil];(repeat' (first|(with_reducible refine WL.fin ?_;refine hK' _ ?_;clear hK' K')|(with_reducible refine WD.fin ?_)|((with_reducible first|refine WL.step fun K2 hK2=>?_|refine WD.step fun K2 hK2=>?_);simp only [simprocAttr,implies_true,amz,tys,b3,Int.reduceToNat,List.getElem?_cons_zero,List.getElem?_cons_succ,Int.reduceLT,Int.reduceLE,Nat.reduceLT,Nat.reduceAdd,List.length_cons,List.length_nil,decide_true,decide_false,Int.toNat_one];(repeat' with_reducible (first|(refine hK2 _ ?_;clear hK2 K2)|refine And.intro ?_ ?_|intro hb)))));all_goals ((try simp only [za,z8,reduceIte,Nat.reduceEqDiff]);(try ((repeat ((fail_if_success (refine hK _ ?_));clear hK K));refine hK _ ?_;clear hK K)))
 repeat' (first|refine T.zh fun K hK=>?_|refine T.block ?_|(refine T.reg (by kernel_rfl) fun K' hK'=>?_;simp only [bz];(repeat' (first|(with_reducible refine WL.fin ?_;refine hK' _ ?_;clear hK' K')|((with_reducible refine WL.step fun K2 hK2=>?_);simp only [simprocAttr,implies_true,amz,tys,b2,b4,b6,aeqF,scEq,Bool.and_self,beq_self_eq_true,Int.reduceBEq,Int.reduceToNat,List.getElem?_cons_zero,List.getElem?_cons_succ,Int.reduceLT,Int.reduceLE,Nat.reduceLT,Nat.reduceAdd,List.length_cons,List.length_nil,decide_true,decide_false,Int.toNat_one];(repeat' (first|with_reducible (first|(refine hK2 _ ?_;clear hK2 K2)|refine And.intro ?_ ?_|intro hb)|((first|(with_reducible apply zg)|(with_reducible apply zl));case h=>exact CallV.plain (Ent.of Try.func10 (by kernel_rfl) rfl) (h2) (by simp [AV.okB]))|((first|(with_reducible apply zg)|(with_reducible apply zl));case h=>exact CallV.plain (Ent.of Try.func12 (by kernel_rfl) rfl) (h3) (by simp [AV.okB]))|((first|(with_reducible apply zg)|(with_reducible apply zl));case h=>exact CallV.plain (Ent.of Try.func12 (by kernel_rfl) rfl) (h4) (by simp [AV.okB]))|((first|(with_reducible apply zg)|(with_reducible apply zl));case h=>exact CallV.plain (Ent.of Try.func15 (by kernel_rfl) rfl) (h5) (by simp [AV.okB]))))))))|refine T.skip ?_|refine T.exit ?_|refine T.zf rfl ?_|refine T.ze rfl ?_|refine T.cond rfl (fun hc=>?_) (fun hc=>?_)|refine T.ret ?_|simp only [za,z8,reduceIte,Nat.reduceEqDiff]|((repeat ((fail_if_success (refine hK _ ?_));clear hK K));refine hK _ ?_;clear hK K))
 all_goals (refine zy.ret (.inr rfl) Try.results9 ?_;simp only [zu,zo,zn,simprocAttr,implies_true,amz,tys,])
theorem ChkP.exp {l:List Ev} {i j:Int} {o:Bool} {ev:List Int} (h:ChkP l i j o ev):plcB l i j=true∧expO l i j=o:=by
 have hp:=z01.2 h.plc
 refine ⟨hp,?_⟩
 unfold expO
 rw [hp,Bool.true_and,← h.kind]
end Go.Proofs.Ytdlgoofjechocaa
namespace Go.Proofs.Ytdlgoofjechocaa
open Go.RowKit Go.Sort Go.ChangeShapes Go.WideShapes Go.ChangeAt
theorem trodAll_length {H:Type} {enc:TypeId × Value→H} {P:Program} {w:World} {base:Nat} {spare:Nat→Bool} {held:Bool} : ∀ {ts:List TypeId} {vs:List Value} {ds:List (DataW H)} {ps:List MemPlace},DataW.TrodAll enc P w base spare held ts vs ds ps→ds.length=ts.length
 | [],[],[],_,_=>rfl
 | _ :: _,_ :: _,_ :: _,_,⟨_,_,_,h,_⟩=>by simp [trodAll_length h]
theorem z4G {H:Type} {enc:TypeId × Value→H} {P:Program} {W W' : World} (hl:laidOutB P=true) (hb:Below W.heap.size W W') : ∀ {ts:List TypeId} {vs:List Value} {ds:List (DataW H)} {ps:List MemPlace},(∀ t ∈ ts,P.readableRec t=true∧t<P.types.size) →
  DataW.TrodAll enc P W 0 (fun _=>true) true ts vs ds ps→(∀ x ∈ ps,x.block<W.heap.size)→DataW.TrodAll enc P W' 0 (fun b=>decide (b<W.heap.size)) true ts vs ds ps
 | [],[],[],_,_,h,_=>h
 | t :: _,_ :: _,_ :: _,_,hT,⟨p,q,h1,h2,e⟩,hs =>
  ⟨p,q,Below.trod hl (hT t (List.mem_cons.2 (.inl rfl))).1 (hT t (List.mem_cons.2 (.inl rfl))).2 h1 hb (fun x hx=>hs x (by rw [e];exact List.mem_append_left _ hx)),
   z4G hl hb (fun t ht=>hT t (List.mem_cons.2 (.inr ht))) h2 (fun x hx=>hs x (by rw [e];exact List.mem_append_right _ hx)),e⟩
theorem law_post {H:Type} {enc:TypeId × Value→H} {P:Program} {f:Func} {s:ChangeSpec} {B:TypeId} (hl:laidOutB P=true) (hps : ∀ t ∈ f.params.toList,P.readableRec t=true∧t<P.types.size) (hres:f.resultTypes = #[B]) (hB:P.underlying B=some .bool)
  {W W' : World} (hb:Below W.heap.size W W') {args:Array Value} {ds gs:List (DataW H)} {before:List MemPlace} (hv:s.vars = []) (hW:DataW.Whole enc P f.params.toList s.vars false W args.toList ds gs before)
  (hspec : ∀ ds:List (DataW H),ds.length=f.params.size→s.fn H ds = { results := [.lit (.bool true)],args:=ds }) :
  s.post enc P f false true false false W args (.bool true) W':=by
 have hW':=hW
 have hlt:=hW.lt
 rw [hv] at hW
 obtain ⟨p,q,hA,hV,rfl,hfz,hnd⟩:=hW
 obtain ⟨rfl,rfl⟩:=trodVars_none hV
 have hsp:=hspec ds (by rw [trodAll_length hA];simp)
 have hlt' : ∀ x ∈ p,x.block<W.heap.size:=fun x hx=>hlt x (List.mem_append_left _ hx)
 refine ⟨ds,[],_,[],p,[],hW',?_,?_,?_,hb.frame _,fun h=>by cases h⟩
 ·rw [List.append_nil,hsp,hres]
  exact trodAll_mk1 (shut_bool hB true)
 ·rw [List.append_nil,hsp]
  exact z4G hl hb hps hA hlt'
 ·rw [List.append_nil,hsp,hv];rfl
theorem law_lifted {H:Type} {enc:TypeId × Value→H} {C:Checked} {os:Os} {f:FuncId} {fn:Func} {s:ChangeSpec} {B:TypeId} (own:ownKnob C.prog.godebug=none) (started:os.Started) (noInit:C.prog.inits.idxOf? f=none) (hfn:C.prog.funcs[f]? = some fn)
  (witness : ∃ (w:World) (tape:Tape) (i:Input),w.os=os∧(w.forCall tape i).Shaped C.prog∧i.vars = []∧Input.okWide C.prog (w.forCall tape i) .any w.heap.size f i ∧
   s.pre6 enc C.prog fn [] false (w.forCall tape i).memory i.args∧({} : Assume).holds C.prog (lone (Frame.enter C.prog f i.args .normal) [] (w.forCall tape i)))
  (hl:laidOutB C.prog=true) (hps:(fn.params.toList.all fun t=>C.prog.readableRec t&&decide (t<C.prog.types.size))=true) (hres:fn.resultTypes = #[B]) (hB:C.prog.underlying B=some .bool) (hv:s.vars = [])
  (hspec : ∀ ds:List (DataW H),ds.length=fn.params.size→s.fn H ds = { results := [.lit (.bool true)],args:=ds })
  (contract : ∀ (W:World) (base:Nat) (args:Array Value) (ds:List (DataW H)) (p:List MemPlace),
   (∀ (j:Nat) t v,fn.params[j]? = some t→args[j]? = some v→Value.okWide C.prog W .any base t v) →
   DataW.TrodAll enc C.prog W 0 (fun _=>true) true fn.params.toList args.toList ds p→(∀ x ∈ p,x.block<W.heap.size)→W.noneFrozen p →
   (DataW.weightsEach C.prog fn.params.toList ds).all (· ≤ reachBytes)=true→W.ShapedOpen C.prog →
   Calls C.prog f args W (Gives (.bool true) W)) :
  ReturnsInHanded {} C os f .any (s.pre6 enc C.prog fn [] false) (s.post enc C.prog fn false true false false):=by
 refine returnsInHanded_of_change_shaped own started noInit hfn witness ?_
 intro W base args ds gs before hval hW _ hw hsh _
 have hW':=hW
 have hlt:=hW.lt
 rw [hv] at hW
 obtain ⟨p,q,hA,hV,rfl,hfz,_⟩:=hW
 obtain ⟨rfl,rfl⟩:=trodVars_none hV
 have hnf:W.noneFrozen p:=fun b off h=>hfz b off (List.mem_append_left _ h)
 have hT : ∀ t ∈ fn.params.toList,C.prog.readableRec t=true∧t<C.prog.types.size:=fun t ht=>by
  have:=List.all_eq_true.1 hps t ht
  simpa using this
 refine (contract W base args ds p hval hA (fun x hx=>hlt x (List.mem_append_left _ hx)) hnf ?_ hsh).mono fun e W' h=>?_
 ·simpa [ChangeSpec.plain,DataSpec.varTypes,hv] using hw
 ·obtain ⟨rfl,q,rfl⟩:=h
  exact ⟨_,rfl,law_post hl hT hres hB (z5I _ _) hv hW' hspec⟩
variable {H:Type} {enc:TypeId × Value→H} {W:World} {base:Nat} {spare:Nat→Bool} {held:Bool}
def PRs (W:World) (ps:List PV) (cs:List Value):Prop:=cs.length=ps.length ∧ ∀ (j:Nat) p v,ps[j]? = some p→cs[j]? = some v→PR (fun _=>False) W p v
theorem PRs.nil:PRs W [] []:=⟨rfl,fun j p v h=>by simp at h⟩
theorem PRs.cons {p:PV} {v:Value} {ps:List PV} {cs:List Value} (h:PR (fun _=>False) W p v) (k:PRs W ps cs):PRs W (p :: ps) (v :: cs):=⟨by simp [k.1],fun j p' v' h1 h2=>by
 cases j with
 | zero=>simp at h1 h2;subst h1;subst h2;exact h
 | succ j=>exact k.2 j p' v' (by simpa using h1) (by simpa using h2)⟩
theorem z1L {n:Nat} {cs:List Value} {y:DataW H × List MemPlace} (h:DataW.trod enc Try.prog W base spare held n 3 cs=some y) : ∃ x:Int,cs = [.int .i64 x]:=by
 obtain ⟨x,hx,_,wx⟩:=DataW.trod_int (by kernel_rfl:Try.prog.underlying 3=some (.int .i64)) h
 exact ⟨x,hx⟩
theorem sl_pr {α:Type} {n:Nat} {g : α→List PV} {e t:TypeId} (hu:Try.prog.underlying t=some (.slice e)) (hc:Try.prog.cellsOf e=n) (hg : ∀ x,(g x).length=n) (hn : 0<n)
  (hel : ∀ m cs y,DataW.trod enc Try.prog W base spare held m e cs=some y → ∃ x,PRs W (g x) cs) {m:Nat} {cs:List Value} {y:DataW H × List MemPlace} (h:DataW.trod enc Try.prog W base spare held m t cs=some y) :
  ∃ (L:List α) (v:Value),cs = [v]∧PR (fun _=>False) W (.seq n (L.map g)) v:=by
 rcases DataW.trod_slice hu h with ⟨h0,_⟩|⟨a,len,cap,elems,rest,k,_,hcs,_,_,hlc,hmax,hlen,hel',_⟩
 ·exact ⟨[],_,h0,.nil n none 0 fun _=>rfl⟩
 ·have hall : ∀ i,i<len → ∃ (x : α) (c:List Value),PRs W (g x) c ∧ ∀ j,j<n→W.cell? ((a.add (i*n)).add j)=c[j]?:=fun i hi=>by
   have hE:=hel' i hi
   rw [List.getElem?_eq_getElem (by omega),Option.bind_eq_some_iff,hc] at hE
   obtain ⟨cs,hcs,hy⟩:=hE
   obtain ⟨_,hl,hat⟩:=World.cells?_some hcs
   obtain ⟨x,hx⟩:=hel _ _ _ hy
   exact ⟨x,cs,hx,fun j hj=>hat j hj⟩
  by_cases h0 : 0<len
  ·obtain ⟨e0,c0,hp0,hc0⟩:=hall 0 h0
   have hl0:c0.length=n:=by rw [hp0.1,hg]
   have hc00:=hc0 0 hn
   obtain ⟨b,off,spot⟩:=a
   rw [List.getElem?_eq_getElem (by omega)] at hc00
   have hspot:spot=none:=by
    have:=World.cell?_spot hc00
    simpa [Addr.add] using this
   subst hspot
   have hall2 : ∀ i,i<len → ∃ (x : α) (c:List Value),PRs W (g x) c ∧ ∀ j,j<n→W.cell? ⟨b,off+i*n+j,none⟩=c[j]?:=fun i hi=>by
    obtain ⟨x,c,h1,h2⟩:=hall i hi
    refine ⟨x,c,h1,fun j hj=>?_⟩
    have:=h2 j hj
    rw [Go.WideShapes.add_plain,Go.WideShapes.add_plain] at this
    exact this
   have hOld:Old b W:=by
    obtain ⟨x,c,h1,h2⟩:=hall2 0 h0
    have h3:=h2 0 hn
    have hl1:c.length=n:=by rw [h1.1,hg]
    rw [List.getElem?_eq_getElem (by omega)] at h3
    exact Old.of_cell h3
   let X:Fin len → α:=fun i=>(hall2 i.1 i.2).choose
   have hX : ∀ i:Fin len,∃ c:List Value,PRs W (g (X i)) c ∧ ∀ j,j<n→W.cell? ⟨b,off+i.1*n+j,none⟩=c[j]?:=fun i=>(hall2 i.1 i.2).choose_spec
   have hlen2:(((List.finRange len).map X).map g).length=len:=by simp
   refine ⟨(List.finRange len).map X,.slice (some ⟨b,off,none⟩) (((List.finRange len).map X).map g).length cap,by rw [hcs,hlen2],?_⟩
   have key : ∀ k r j x,(((List.finRange len).map X).map g)[k]? = some r→r[j]? = some x → ∃ v,W.cell? ⟨b,off+k*n+j,none⟩=some v∧PR (fun _=>False) W x v:=fun k r j x hk hx=>by
    simp only [List.getElem?_map,Option.map_eq_some_iff] at hk
    obtain ⟨y,⟨i,hi,rfl⟩,rfl⟩:=hk
    have hki:i.1=k:=by
     obtain ⟨h1,h2⟩:=List.getElem?_eq_some_iff.1 hi
     rw [← h2];simp
    obtain ⟨c,h1,h2⟩:=hX i
    have hjn:j<n:=by rw [← hg (X i)];exact (List.getElem?_eq_some_iff.1 hx).1
    have hcl:c.length=n:=by rw [h1.1,hg]
    have h3:=h2 j hjn
    rw [hki,List.getElem?_eq_getElem (by omega)] at h3
    exact ⟨_,h3,h1.2 j x _ hx (List.getElem?_eq_getElem (by omega))⟩
   refine .seq n b off cap _ (fun k j=>(W.cell? ⟨b,off+k*n+j,none⟩).getD undef) hOld id (by rw [hlen2];exact hlc) hmax (fun r hr=>?_) (fun k r j x hk hx=>?_) (fun k r j x hk hx=>?_)
   ·obtain ⟨y,_,rfl⟩:=List.mem_map.1 hr;exact hg y
   ·obtain ⟨v,h1,_⟩:=key k r j x hk hx
    rw [h1];rfl
   ·obtain ⟨v,h1,h2⟩:=key k r j x hk hx
    rw [h1];exact h2
  ·obtain rfl:len=0:=by omega
   exact ⟨[],_,hcs,.nil n (some a) cap fun e=>by cases e⟩
theorem split9 {α:Type} (cs:List α) (h:cs.length=9):cs=(cs.drop 0).take 1++(cs.drop 1).take 1++(cs.drop 2).take 1++(cs.drop 3).take 1++(cs.drop 4).take 1++(cs.drop 5).take 1++(cs.drop 6).take 1++(cs.drop 7).take 1++(cs.drop 8).take 1:=by
 match cs,h with
 | [a,b,c,d,e,f,g,h,i],_=>rfl
theorem ev_of {n:Nat} {cs:List Value} {y:DataW H × List MemPlace} (h:DataW.trod enc Try.prog W base spare held n 39 cs=some y) : ∃ x:Ev,PRs W (evC x) cs:=by
 obtain ⟨xs,m,_,_,hl,hx,hf⟩:=DataW.trod_struct (P:=Try.prog) (t := 39) rfl h
 have hx' : xs.length=9:=hx
 have f0:=hf 0 _ rfl
 have f1:=hf 1 _ rfl
 have f2:=hf 2 _ rfl
 have f3:=hf 3 _ rfl
 have f4:=hf 4 _ rfl
 have f5:=hf 5 _ rfl
 have f6:=hf 6 _ rfl
 have f7:=hf 7 _ rfl
 have f8:=hf 8 _ rfl
 rw [List.getElem?_eq_getElem (by omega)] at f0 f1 f2 f3 f4 f5 f6 f7 f8
 obtain ⟨x0,e0⟩:=z1L f0
 obtain ⟨x1,e1⟩:=z1L f1
 obtain ⟨x2,e2⟩:=z1L f2
 obtain ⟨x3,e3⟩:=z1L f3
 obtain ⟨x4,e4⟩:=z1L f4
 obtain ⟨x5,e5⟩:=z1L f5
 obtain ⟨x6,e6⟩:=z1L f6
 obtain ⟨x7,e7⟩:=z1L f7
 obtain ⟨x8,e8⟩:=z1L f8
 have hc:Try.prog.cellsOf 3=1:=by kernel_rfl
 have hcl:Try.prog.cellsOf 39=9:=by kernel_rfl
 rw [hcl] at hl
 have hs:=split9 cs hl
 refine ⟨⟨x0,x1,x2,x3,x4,x5,x6,x7,x8⟩,?_⟩
 rw [hs]
 change (cs.drop 0).take (Try.prog.cellsOf 3)=_ at e0
 rw [hc] at e0
 change (cs.drop 1).take (Try.prog.cellsOf 3)=_ at e1
 rw [hc] at e1
 change (cs.drop 2).take (Try.prog.cellsOf 3)=_ at e2
 rw [hc] at e2
 change (cs.drop 3).take (Try.prog.cellsOf 3)=_ at e3
 rw [hc] at e3
 change (cs.drop 4).take (Try.prog.cellsOf 3)=_ at e4
 rw [hc] at e4
 change (cs.drop 5).take (Try.prog.cellsOf 3)=_ at e5
 rw [hc] at e5
 change (cs.drop 6).take (Try.prog.cellsOf 3)=_ at e6
 rw [hc] at e6
 change (cs.drop 7).take (Try.prog.cellsOf 3)=_ at e7
 rw [hc] at e7
 change (cs.drop 8).take (Try.prog.cellsOf 3)=_ at e8
 rw [hc] at e8
 rw [e0,e1,e2,e3,e4,e5,e6,e7,e8]
 exact .cons (.val _ rfl) (.cons (.val _ rfl) (.cons (.val _ rfl) (.cons (.val _ rfl) (.cons (.val _ rfl) (.cons (.val _ rfl) (.cons (.val _ rfl) (.cons (.val _ rfl) (.cons (.val _ rfl) .nil))))))))
theorem z6G {P:Program} {w:World} {r:Reach} {base:Nat} {t e:TypeId} {v x:Value} (hu:P.underlying t=some (.slice e)) (hok:Value.okWide P w r base t v) (h:v.cells.toList = [x]):v=x:=by
 unfold Value.okWide at hok
 rw [hu] at hok
 cases v <;> simp [Value.cells] at h <;> first|exact h|(simp [Cell.okWide,Cell.ok,hu] at hok)
theorem z1O {r:Reach} {v:Value} {d:DataW H} {p:List MemPlace} (hval:Value.okWide Try.prog W r base 22 v)
  (h:DataW.Trod enc Try.prog W 0 (fun _=>true) true 22 v d p) : ∃ l:List Ev,PR (fun _=>False) W (.seq 9 (l.map evC)) v:=by
 obtain ⟨fuel,h⟩:=h
 obtain ⟨l,x,e,hp⟩:=sl_pr (e := 39) (n := 9) (g:=evC) (by kernel_rfl) (by kernel_rfl) (fun _=>rfl) (by omega) (fun m cs y h=>ev_of h) h
 rw [z6G (e := 39) (by kernel_rfl) hval e]
 exact ⟨l,hp⟩
theorem Try.own:ownKnob Try.prog.godebug=none:=by kernel_rfl
theorem zq.gives {P:Program} {f:FuncId} {xs:List AV} {b:Bool} {vs:Array Value} (h:zq P f xs (.bool b)) (hx:ARs 0 (fun _=>False) z3Q W xs vs.toList):Calls P f vs W (Gives (.bool b) W):=by
 have:=h (fun _=>False) W vs.toList (fun _ h=>h.elim) hx
 refine Calls.mono this fun e w' ⟨v,h1,h2,h3⟩=>?_
 subst h1
 exact ⟨by rw [h3.val],z3Z h2.toBelow⟩
variable {H:Type} {enc:TypeId × Value→H} {W:World} {base:Nat}
end Go.Proofs.Ytdlgoofjechocaa
namespace Go.Proofs.Ytdlgoofjechocaa
open Go.RowKit Go.Sort
theorem za1 : ∀ {r s:List Int},r.Nodup→(∀ x ∈ r,x ∈ s)→r.length≤s.length
 | [],s,_,_=>Nat.zero_le _
 | x :: r,s,h,hs=>by
  obtain ⟨h1,h2⟩:=List.nodup_cons.1 h
  have h3:=hs x List.mem_cons_self
  have h4:=za1 (s:=s.erase x) h2 fun y hy=>(List.mem_erase_of_ne (by rintro rfl;exact h1 hy)).2 (hs y (List.mem_cons_of_mem _ hy))
  rw [List.length_erase_of_mem h3] at h4
  have h5:=List.length_pos_of_mem h3
  rw [List.length_cons];omega
theorem ChkP.all {l:List Ev} {i j:Int} {ev:List Int} (h:ChkP l i j false ev) : ∀ x ∈ expE l i j,(x:Int) ∈ ev:=fun x hx=>by
 obtain ⟨hp,hko⟩:=h.exp
 have hpp:=z01.1 hp
 unfold expE at hx
 rw [if_pos hp,if_neg (by rw [h.no];omega)] at hx
 have hj:j.toNat<l.length:=by have:=hpp.2.2.2;have:=hpp.2.1;have:=hpp.2.2.1;omega
 have hjz:((j.toNat:Nat):Int)=j:=by have:=hpp.2.1;have:=hpp.2.2.1;omega
 rw [← hjz] at hx
 obtain ⟨c,hc⟩:=hb_chn (Nat.le_refl _) ((z2v hpp.1 hj).1 hx)
 exact h.sub c x hc
theorem ChkP.len {l:List Ev} {i j:Int} {o:Bool} {ev:List Int} (h:ChkP l i j o ev):(expE l i j).length≤ev.length:=by
 obtain ⟨hp,hko⟩:=h.exp
 cases o with
 | true =>
  obtain ⟨h1,h2⟩:=h.yes
  unfold expE
  rw [if_pos hp,if_pos h1,z3z h1];exact h2
 | false =>
  have h1:=z3A hp
  have h2:(zs (expE l i j)).Nodup:=by
   refine (List.pairwise_iff_getElem.2 fun a b ha hb hab=>?_)
   have h3:=z7t h1.inc (b-(a+1)) a _ _ (List.getElem?_eq_getElem ha) (by rw [show a+1+(b-(a+1))=b by omega];exact List.getElem?_eq_getElem hb)
   omega
  have h3:=za1 h2 fun x hx=>by
   obtain ⟨a,h4,rfl⟩:=z6a hx
   exact h.all a h4
  simpa [zs] using h3
end Go.Proofs.Ytdlgoofjechocaa
