/- Texts Ax, Ty, Ev, Ss, St, Su, Sw, Sv, Sx, Sy, Sz, Sk. -/
import Derived.Laws.Strings
import Derived.Test.YtnckehomadnhoaaZ03
namespace Go.Proofs.Ytnckehomadnhoaa
open Go.RowKit Go.Sort
set_option linter.unusedSimpArgs false
set_option linter.unusedVariables false
def commAtT (ops:Array Oper) (l:List Oper) (fl:Fl) (size i:Nat) (o:Oper) (f:Option (Nat × Nat)):Bool :=
  (match o.dst with|some d=>decide (d < size)|none=>f.isNone) &&
  (o.after.all (fun e => !Region.binds .any e || decide (e.on < i)) &&
  ((o.looksAt ops).all (fun t=>decide (t < size) && (List.range l.length).all fun j=>((l[j]?).bind (·.dst)) != some t || edgeB ops i j) &&
  ((List.range l.length).all (fun j=>i == j || o.dst.isNone || ((l[j]?).bind (·.dst)) != o.dst) &&
  (match f with
    | some (lo,hi)=>(decide (lo=0) || (List.range l.length).any fun k=>wrB fl k && (rkf fl k + 1 == lo && edgeB ops i k)) && (decide (rkf fl fl.length≤hi) || (List.range l.length).any fun k=>wrB fl k && (rkf fl k == hi && edgeB ops k i))
    | none=>o.guard.isNone && (decide (rkf fl i=0) || (List.range l.length).any fun k=>wrB fl k && (rkf fl k + 1 == rkf fl i && edge2B ops i k))))))
def commBT (ops:Array Oper) (l:List Oper) (fl:Fl) (size:Nat):Bool :=
  decide (fl.length=l.length) && ((decide (rkf fl fl.length=0) || (List.range fl.length).any fun i=>wrB fl i && rkf fl i + 1 == rkf fl fl.length) &&
  (List.range l.length).all fun i=>match l[i]?,fl[i]? with
    | some o,some f=>commAtT ops l fl size i o f
    | _,_=>false)
theorem commBT_at {ops:Array Oper} {l:List Oper} {fl:Fl} {size i:Nat} {o:Oper} (h:commBT ops l fl size=true) (ho:l[i]? = some o) : ∃ f,fl[i]? = some f∧commAtT ops l fl size i o f=true:=by
  simp only [commBT,Bool.and_eq_true,List.all_eq_true,List.mem_range] at h
  have:=h.2.2 i (List.getElem?_eq_some_iff.1 ho).1
  rw [ho] at this
  cases hf:fl[i]? with
  | none=>simp [hf] at this
  | some f=>simp [hf] at this;exact ⟨f,rfl,this⟩
theorem fitT_of {ops:Array Oper} {l:List Oper} {fl:Fl} (hpre : ∀ (i:Nat) (o:Oper),l[i]? = some o→ops[i]? = some o) {size:Nat} (h:commBT ops l fl size=true):Fit ops (l.zip fl):=by
  refine ⟨fun i j a b ha hb hij t ht e=>?_,fun i j a b d ha hb hij hd e=>?_,fun a ha hs=>?_⟩
  · obtain ⟨o,f⟩:=a
    obtain ⟨o',f'⟩:=b
    obtain ⟨h1,h2⟩:=zip_at ha
    obtain ⟨h3,h4⟩:=zip_at hb
    obtain ⟨f2,hf2,hc⟩:=commBT_at h h1
    simp only [commAtT,Bool.and_eq_true,List.all_eq_true,List.mem_range] at hc
    have:=(hc.2.2.1 t ht).2 j (List.getElem?_eq_some_iff.1 h3).1
    simp only [Bool.or_eq_true,h3] at this
    rcases this with h5|h5
    · simp at h5;exact h5 e
    · obtain ⟨o2,ed,e1,e2,e3,e4⟩:=edgeB_spec h5
      have e1':=hpre i o h1
      rw [e1] at e1';cases e1'
      have:=Array.all_eq_true_iff_forall_mem.1 hc.2.1 ed e2
      simp only [e3,Bool.not_true,Bool.false_or,decide_eq_true_eq] at this
      omega
  · obtain ⟨o,f⟩:=a
    obtain ⟨o',f'⟩:=b
    obtain ⟨h1,h2⟩:=zip_at ha
    obtain ⟨h3,h4⟩:=zip_at hb
    obtain ⟨f2,hf2,hc⟩:=commBT_at h h1
    simp only [commAtT,Bool.and_eq_true,List.all_eq_true,List.mem_range] at hc
    have:=hc.2.2.2.1 j (List.getElem?_eq_some_iff.1 h3).1
    simp only at hd e
    simp [h3,hd,e] at this
    omega
  · obtain ⟨i,hi⟩:=List.mem_iff_getElem?.1 ha
    obtain ⟨o,f⟩:=a
    obtain ⟨h1,h2⟩:=zip_at hi
    obtain ⟨f2,hf2,hc⟩:=commBT_at h h1
    rw [h2] at hf2;cases hf2
    simp only [commAtT,Bool.and_eq_true] at hc
    have h3:=hc.1
    split at h3
    · rename_i d hd;exact ⟨d,hd⟩
    · cases f with
      | none=>cases hs
      | some f=>cases h3
theorem WS.sound {P:Program} {ops:Array Oper} {Q:Exit→ASt→Prop} {o:Oper} {rest:List Oper} {s:ASt} (h:WS P (ops.toList.map (·.dst)) o s (TL P ops Q rest)):TL P ops Q (o :: rest) s:=by
  obtain ⟨hd,h⟩:=h
  split at h
  · rename_i hg
    exact WO.sound (by simp [Wants,hg]) hd h
  · rename_i g want hg
    split at h
    · rename_i t ht
      have ht' : (ops[g]?).bind (·.dst)=some t:=by
        simp only [List.getElem?_map,Option.map_eq_some_iff,Array.getElem?_toList] at ht
        obtain ⟨o',h1,h2⟩:=ht
        rw [h1];exact h2
      split at h
      · rename_i b hb
        by_cases hbw:b=want
        · have hw:=(Sq.same (s:=s) (t:=t) (x := .bool want) (by rw [hb,hbw])).weak
          exact TL.weak hw (WO.sound (by simp only [Wants,hg,ht',ASt.get_put,if_true]) (by unfold dstOk at hd ⊢;exact hd) (h.1 hbw))
        · have hbn:b=(!want):=by cases b <;> cases want <;> simp_all
          have hw:=(Sq.same (s:=s) (t:=t) (x := .bool (!want)) (by rw [hb,hbn])).weak
          exact TL.weak hw (TL.skip (by simp only [Unwanted,hg,ht',ASt.get_put,if_true];exact .inl trivial) (h.2 hbn) hd.h)
      · rename_i hb
        exact TL.skip (by simp only [Unwanted,hg,ht'];exact .inr hb) h hd.h
      · exact h.elim
    · exact h.elim
def WLW (P:Program) (ds:List (Option Nat)) (Q:ASt→Prop):List Oper→ASt→Prop
  | [],s=>Q s
  | o :: rest,s => ∃ s',Weak s s' ∧ WS P ds o s' (WLW P ds Q rest)
theorem WLW.sound {P:Program} {ops:Array Oper} {Q:Exit→ASt→Prop} : ∀ {l:List Oper} {s:ASt},WLW P (ops.toList.map (·.dst)) (Q .normal) l s→TL P ops Q l s
  | [],_,h=>TL.nil h
  | _ :: _,_,⟨_,h1,h2⟩=>TL.weak h1 (WS.sound (WS.mono (fun _ k=>WLW.sound k) h2))
theorem WLW.step {P:Program} {ds:List (Option Nat)} {Q:ASt→Prop} {o:Oper} {rest:List Oper} {s:ASt} (h : ∀ K:ASt→Prop,(∀ s,WLW P ds Q rest s→K s)→WS P ds o s K):WLW P ds Q (o :: rest) s:=⟨s,Weak.refl s,h _ fun _ h=>h⟩
theorem WLW.weak {P:Program} {ds:List (Option Nat)} {Q:ASt→Prop} {o:Oper} {rest:List Oper} {s s' : ASt} (hw:Weak s s') (h:WLW P ds Q (o :: rest) s'):WLW P ds Q (o :: rest) s:=let ⟨s2,h1,h2⟩:=h;⟨s2,hw.trans h1,h2⟩
theorem WLW.fin {P:Program} {ds:List (Option Nat)} {Q:ASt→Prop} {s:ASt} (h:Q s):WLW P ds Q [] s:=h
def tailB (ops:Array Oper) (n:Nat):Bool:=decide (n≤ops.size) && ((List.range n).all (fun i=>match ops[i]? with|none=>false|some o=>o.after.all (fun e => !Region.binds .any e || decide (e.on < i))) &&
  ((decide (n=ops.size) || (Region.sinkB .any ops n && Region.chainB .any ops n)) && Region.seqB .any ops (ops.size - n) n (headDone ops.size n)))
theorem T.commT {F:Fence} [FOk F] {P:Program} {Q:Exit→ASt→Prop} {s:ASt} {id:Nat} {l:List Oper} (n:Nat) (fl:Fl) (hm:P.follows .mixedOrders=true) (hB:(noDefB l && (commBT l.toArray (l.take n) fl s.n && tailB l.toArray n))=true)
    (h : ∀ K:ASt→Prop,(∀ s,WLW P (l.map (·.dst)) (Q .normal) (l.drop n) s→K s)→WC P (l.map (·.dst)) K ((l.take n).zip fl) [] [] s):T F P (.region id l.toArray true) Q s:=fun L loc a w hr=>by
  obtain ⟨hnd,hB⟩:=Bool.and_eq_true_iff.1 hB
  obtain ⟨hB,htB⟩:=Bool.and_eq_true_iff.1 hB
  simp only [tailB,Bool.and_eq_true,decide_eq_true_eq,Bool.or_eq_true] at htB
  obtain ⟨hnle,hdep,htail,hseq⟩:=htB
  obtain ⟨lh,hlh⟩ : ∃ lh,lh=l.take n:=⟨_,rfl⟩
  rw [← hlh] at hB h
  have hlhl:lh.length=n:=by rw [hlh,List.length_take];simp at hnle;omega
  have hpre : ∀ (i:Nat) (o:Oper),lh[i]? = some o→l.toArray[i]? = some o:=fun i o hi=>by
    rw [List.getElem?_toArray]
    rw [hlh,List.getElem?_take] at hi
    split at hi
    · exact hi
    · cases hi
  have hback : ∀ (i:Nat) (o:Oper),i < n→l.toArray[i]? = some o→lh[i]? = some o:=fun i o hi ho=>by
    rw [hlh,List.getElem?_take,if_pos hi];simpa using ho
  refine wpIn_mono (wpIn_region_any hm (any_in NQ.out (noDefB_spec hnd) _ _ _ _ ?_)) fun _ _ _ k=>NQ.post k
  change wpAny P .any l.toArray (TPost L loc w (NQ Q)) _ _ a w.drew
  have hfit:=fitT_of hpre hB
  have hlen:fl.length=lh.length:=by simp only [commBT,Bool.and_eq_true,decide_eq_true_eq] at hB;exact hB.1
  have hsz:l.toArray.size=l.length:=by simp
  have hgd : ∀ x ∈ lh.zip fl,x.2=none→x.1.guard=none:=fun x hx hn=>by
    obtain ⟨i,hi⟩:=List.mem_iff_getElem?.1 hx
    obtain ⟨o,f⟩:=x
    obtain ⟨h1,h2⟩:=zip_at hi
    obtain ⟨f2,hf2,hc⟩:=commBT_at hB h1
    rw [h2] at hf2;cases hf2
    simp only at hn;subst hn
    simp only [commAtT,Bool.and_eq_true] at hc
    simpa using hc.2.2.2.2.1
  obtain ⟨fin,hps,hq,ho⟩:=WC.out (ops:=l.toArray) (lh.zip fl) [] [] s hfit (by simpa using h _ fun _ h=>h) (fun p hp=>(by cases hp)) hgd
  obtain ⟨tl,hmem,htl⟩:=ho.mem
  simp only [List.nil_append] at hmem
  have hm' : wct (lh.zip fl)=rkf fl fl.length:=by
    have:=wct_zip (l:=lh) (fl:=fl) fl.length hlen
    rw [List.take_of_length_le (by simp;omega)] at this
    exact this
  have hpl:hps.length=rkf fl fl.length + 1:=by rw [hmem];simp [htl,hm']
  have hn:fin.n=s.n:=ho.n
  -- what a ready operation knows
  have ready : ∀ {listed:Array Bool} {i k:Nat},i ∈ Region.ready .any l.toArray listed→edgeB l.toArray i k=true→listed.getD k false=true:=by
    intro listed i k hi he
    obtain ⟨o,e,h1,h2,h3,h4⟩:=edgeB_spec he
    obtain ⟨_,o',ho',hall⟩:=mem_ready.1 hi
    rw [h1] at ho';cases ho'
    rw [← h4];exact hall e h2 h3
  let I:Array Bool→Act→World→Prop:=fun listed a' w' => ∃ (j:Nat) (hj:Hp × Nat) (loc' : Nat→Option Value),HeadInv .any l.toArray n listed∧j≤rkf fl fl.length ∧
    (∀ i,fl[i]? = some none→(listed.getD i false=true↔rkf fl i < j))∧hps[j]? = some hj∧Rel All L (midS lh fin listed hj) loc' a' w' ∧ Ext loc w loc' w'
  have looks : ∀ {listed:Array Bool} {i:Nat} {o:Oper} {hj:Hp × Nat},lh[i]? = some o→i ∈ Region.ready .any l.toArray listed → ∀ t ∈ o.looksAt l.toArray,(midS lh fin listed hj).get t=fin.get t:=by
    intro listed i o hj hio hi t ht
    obtain ⟨f,hf,hc⟩:=commBT_at hB hio
    simp only [commAtT,Bool.and_eq_true,List.all_eq_true,List.mem_range] at hc
    obtain ⟨h1,h2⟩:=hc.2.2.1 t ht
    have hk:known lh listed t=true:=by
      simp only [known,List.all_eq_true,List.mem_range,Bool.or_eq_true]
      intro k hk
      have:=h2 k hk
      simp only [Bool.or_eq_true] at this
      exact this.imp (fun h=>h) (fun he=>ready hi he)
    rw [midS_get,if_neg (by rw [hk];simp)]
  have dsts : ∀ {i:Nat} {o:Oper} {d:Nat},lh[i]? = some o→o.dst=some d→d < s.n:=by
    intro i o d hio hd
    obtain ⟨f,hf,hc⟩:=commBT_at hB hio
    simp only [commAtT,Bool.and_eq_true] at hc
    have:=hc.1
    rw [hd] at this
    simpa using this
  have hclo : ∀ {listed:Array Bool},HeadInv .any l.toArray n listed → ∀ i k,listed.getD i false=true→edgeB l.toArray i k=true→listed.getD k false=true:=fun hin i k hi he=>by
    obtain ⟨o,e,h1,h2,h3,h4⟩:=edgeB_spec he
    rw [← h4];exact hin.closed i o h1 hi e h2 h3
  -- the frame after an operation
  have frame : ∀ {listed:Array Bool} {i:Nat} {o:Oper} {hj:Hp × Nat} {av:AV},lh[i]? = some o→i < listed.size→av=dav o fin → ∀ t,(midS lh fin (listed.setIfInBounds i true) hj).get t = .junk∨(midS lh fin (listed.setIfInBounds i true) hj).get t=((midS lh fin listed hj).put o.dst av).get t:=by
    intro listed i o hj av hio hi hav t
    rw [midS_get]
    split
    · left;rfl
    · rename_i hk
      right
      have old:o.dst ≠ some t→(midS lh fin listed hj).get t=fin.get t:=fun hd=>by
        rw [midS_get,if_neg]
        rintro ⟨h1,h2⟩
        refine hk ⟨h1,?_⟩
        cases h3:known lh (listed.setIfInBounds i true) t with
        | false=>rfl
        | true=>rw [known_set hio hi h3 hd] at h2;cases h2
      cases hd:o.dst with
      | none=>exact (old (by rw [hd];intro e;cases e)).symm
      | some d =>
        rw [ASt.get_put]
        split
        · rename_i e;rw [e,hav];simp [dav,hd]
        · rename_i e
          exact (old (by rw [hd];intro e';cases e';exact e rfl)).symm
  have toMid : ∀ {listed:Array Bool} {i:Nat} {o:Oper} {hj:Hp × Nat} {av:AV} {loc' : Nat→Option Value} {a' : Act} {w' : World},lh[i]? = some o→i < listed.size→av=dav o fin→Rel All L ((midS lh fin listed hj).put o.dst av) loc' a' w' → Rel All L (midS lh fin (listed.setIfInBounds i true) hj) loc' a' w':=by
    intro listed i o hj av loc' a' w' hio hi hav hrel
    have hput : ∀ (s:ASt) (d:Option Nat) (x:AV),(s.put d x).hp=s.hp∧(s.put d x).n=s.n∧(s.put d x).N=s.N:=fun s d x=>by cases d <;> exact ⟨rfl,rfl,rfl⟩
    obtain ⟨p1,p2,p3⟩:=hput (midS lh fin listed hj) o.dst av
    refine ⟨hrel.defers,hrel.size.trans p2,fun t ht=>?_,by have:=hrel.hp;rw [p1,p3] at this;exact this⟩
    have h1:=hrel.fr t trivial
    rw [p3] at h1
    rcases frame (hj:=hj) hio hi hav t with e|e
    · rw [e];exact .junk _
    · rw [e];exact h1
  have hstart:I (Array.replicate l.toArray.size false) a w.drew:=by
    refine ⟨0,(s.hp,s.N),loc,⟨by simp,fun j oj _ hl=>(by rw [getD_replicate_false] at hl;cases hl),fun t _ ht=>getD_in (by simpa using ht) (getD_replicate_false _ _)⟩,Nat.zero_le _,fun i _=>⟨fun hi=>(by rw [getD_replicate_false] at hi;cases hi),fun hi=>absurd hi (Nat.not_lt_zero _)⟩,by rw [hmem];rfl,?_,.of_below (Blw.refl _ _).drew⟩
    have hrd:=hr.below (Blw.refl _ _).drew
    refine ⟨hrd.defers,hrd.size.trans hn.symm,fun t _=>?_,hrd.hp⟩
    rw [midS_get]
    split
    · exact .junk _
    · rename_i hk
      rw [ho.out t (fun e he hd=>?_)]
      · exact hrd.fr t trivial
      · obtain ⟨i,hi⟩:=List.mem_iff_getElem?.1 he
        obtain ⟨o,f⟩:=e
        obtain ⟨h1,h2⟩:=zip_at hi
        simp only at hd
        refine hk ⟨by rw [hn];exact dsts h1 hd,?_⟩
        cases h3:known lh (Array.replicate l.toArray.size false) t with
        | false=>rfl
        | true =>
          simp only [known,List.all_eq_true,List.mem_range,Bool.or_eq_true] at h3
          rcases h3 i (List.getElem?_eq_some_iff.1 h1).1 with h3|h3
          · simp [h1,hd] at h3
          · rw [getD_replicate_false] at h3;cases h3
  refine wpAny_head (n:=n) (g:=l.toArray.size - n) I (fun _ _ _ ⟨_,_,_,hinv,_⟩=>hinv) (fun listed inv h0=>head_waits hnle hdep htail inv h0) ?_ ?_ _ _ _ _ ?_ hstart
  · -- a step
    intro listed a' w' i ⟨j,hj,loc',hinv,hjm,hwr,hhj,hrel,hext⟩ hin hrdy
    have hsl:listed.size=l.length:=by rw [hinv.size];simp
    have hcl:=hclo hinv
    obtain ⟨hun,o,hio',hall⟩:=mem_ready.1 hrdy
    have hio:lh[i]? = some o:=hback i o hin hio'
    have hil:i < l.length:=by have:=(Array.getElem?_eq_some_iff.1 hio').1;simpa using this
    have hun' : ¬ listed.getD i false=true:=fun e=>by
      have hlt:i < listed.size:=by omega
      simp [hlt] at e hun;rw [e] at hun;cases hun
    obtain ⟨f,hf,hc⟩:=commBT_at hB hio
    have hzip:(lh.zip fl)[i]? = some (o,f):=by rw [List.getElem?_zip_eq_some];exact ⟨hio,hf⟩
    simp only [commAtT,Bool.and_eq_true,List.all_eq_true] at hc
    obtain ⟨_,_,_,_,hc5⟩:=hc
    have hlk:=looks (hj:=hj) hio hrdy
    unfold wpOp
    rw [hio']
    cases f with
    | some lh =>
      obtain ⟨lo,hi⟩:=lh
      simp only [Bool.and_eq_true,Bool.or_eq_true,decide_eq_true_eq,List.any_eq_true,List.mem_range,beq_iff_eq] at hc5
      obtain ⟨c1,c2⟩:=hc5
      have hlo:lo≤j:=by
        rcases c1 with c1|⟨k,_,k1,k2,k3⟩
        · omega
        · have:=(hwr k (wrB_spec k1)).1 (ready hrdy k3)
          omega
      have hhi:j≤hi:=by
        rcases c2 with c2|⟨k,_,k1,k2,k3⟩
        · omega
        · refine Nat.le_of_not_lt fun hlt=>hun' (hcl k i ((hwr k (wrB_spec k1)).2 (by omega)) k3)
      obtain ⟨d,hd⟩:=hfit.dst _ (List.mem_of_getElem? hzip) rfl
      simp only at hd
      have hgok:=ho.val i o lo hi hzip d hd j hj hlo hhi hhj
      have hrl:Rel (Go.Proofs.Ytnckehomadnhoaa.looks l.toArray o) L ⟨fin.fr,hj.1,fin.n,hj.2⟩ loc' a' w':=⟨hrel.defers,hrel.size,fun t ht=>by have:=hrel.fr t trivial;rw [hlk t ht] at this;exact this,hrel.hp⟩
      have after : ∀ {v:Value} {w2:World},Blw w'.heap.size w' w2→AR hj.2 (Dm L loc') loc' w2 (fin.get d) v→I (listed.setIfInBounds i true) (a'.put o.dst v) w2:=by
        intro v w2 hb hav
        refine ⟨j,hj,loc',hinv.set hrdy hin,hjm,fun k hk=>?_,hhj,?_,hext.trans (.of_below hb)⟩
        · have hne:i ≠ k:=fun e=>by subst e;rw [hf] at hk;cases hk
          rw [getD_set_ne false hne];exact hwr k hk
        · refine toMid (av:=fin.get d) hio (by omega) (by simp [dav,hd]) ?_
          exact (hrel.below hb).put' (fun t ht=>by show t < fin.n;rw [hn];exact dsts hio ht) hav
      unfold GOK at hgok
      split at hgok
      · rename_i hg
        have hw:Region.wanted o (yielded l.toArray a'.tmps)=true:=by simp [Region.wanted,hg]
        simp only [hw,if_true]
        refine .inl ?_
        unfold Oper.wp
        rcases hgok L loc' a' w' hrl with ⟨v,w2,h1,h2,h3⟩|⟨g,args,h1,h2⟩
        · rw [h1];exact after h2 h3
        · rw [h1]
          refine h2.mono fun e w2 ⟨v,he,hb,hav⟩=>?_
          subst he
          exact after hb hav
      · rename_i g want hg
        rcases hgok with ⟨t,b,ht,hb,h3,h4⟩|⟨t,ht,hb,h4⟩
        rotate_left
        · have htm:t ∈ o.looksAt l.toArray:=List.mem_append.2 (.inr (by rw [hg];simp only [ht];simp))
          have hw:=und_wanted hrl htm hg ht hb
          simp only [hw,Bool.false_eq_true,if_false]
          exact after (Blw.refl _ _) (by rw [h4];exact .tup [] #[] rfl (fun j x hx=>by simp at hx))
        have htm:t ∈ o.looksAt l.toArray:=List.mem_append.2 (.inr (by rw [hg];simp only [ht];simp))
        have hbt:=guard_slot hrl (t:=t) (b:=b) htm hb
        have hwt:Region.wanted o (yielded l.toArray a'.tmps)=(b == want):=by
          simp only [Region.wanted,hg,yielded,ht,hbt,Option.bind_some]
          cases b <;> cases want <;> rfl
        by_cases e:b=want
        · have hw:Region.wanted o (yielded l.toArray a'.tmps)=true:=by rw [hwt];simpa using e
          simp only [hw,if_true]
          refine .inl ?_
          unfold Oper.wp
          rcases h3 e L loc' a' w' hrl with ⟨v,w2,h1,h2,h3⟩|⟨g,args,h1,h2⟩
          · rw [h1];exact after h2 h3
          · rw [h1]
            refine h2.mono fun e w2 ⟨v,he,hb,hav⟩=>?_
            subst he
            exact after hb hav
        · have hw:Region.wanted o (yielded l.toArray a'.tmps)=false:=by rw [hwt];simpa using e
          simp only [hw,Bool.false_eq_true,if_false]
          exact after (Blw.refl _ _) (by rw [h4 e];exact .tup [] #[] rfl (fun j x hx=>by simp at hx))
    | none =>
      simp only [Bool.and_eq_true,Bool.or_eq_true,decide_eq_true_eq,List.any_eq_true,List.mem_range,beq_iff_eq] at hc5
      obtain ⟨c1,c2⟩:=hc5
      have hge : ¬ rkf fl i < j:=fun e=>hun' ((hwr i hf).2 e)
      have hj' : rkf fl i=j:=by
        rcases c2 with c2|⟨k,_,k1,k2,k3⟩
        · omega
        · have hk3:listed.getD k false=true:=by
            simp only [edge2B,Bool.or_eq_true,List.any_eq_true,Bool.and_eq_true] at k3
            rcases k3 with k3|⟨j',_,j1,j2⟩
            · exact ready hrdy k3
            · exact hcl j' k (ready hrdy j1) j2
          have:=(hwr k (wrB_spec k1)).1 hk3
          omega
      obtain ⟨h1,h2,e1,e2,hwe⟩:=ho.wr i o hzip
      rw [wct_zip i hlen] at e1 e2
      simp only [List.length_nil,Nat.zero_add,hj'] at e1 e2
      rw [hhj] at e1;cases e1
      have hg:o.guard=none:=by simpa using c1
      have hw:Region.wanted o (yielded l.toArray a'.tmps)=true:=by simp [Region.wanted,hg]
      simp only [hw,if_true]
      refine .inl ?_
      have:=hwe (midS lh fin listed hj) rfl rfl rfl hlk (fun t ht=>by show t < fin.n;rw [hn];exact dsts hio ht) L loc' a' w' hrel
      refine oper_mono (fun a2 w2 ⟨loc2,hr2,hx2⟩=>?_) (fun _ _ _ h=>h.elim) this
      refine ⟨j + 1,h2,loc2,hinv.set hrdy hin,by have:=rkf_lt hf;omega,fun k hk=>?_,e2,?_,hext.trans hx2⟩
      · by_cases e:i=k
        · subst e
          have hlt:i < listed.size:=by omega
          simp [hlt];omega
        · rw [getD_set_ne false e,hwr k hk]
          have:rkf fl k ≠ j:=fun e'=>e (rkf_inj hf hk (hj'.trans e'.symm))
          omega
      · exact toMid (av:=dav o fin) hio (by omega) rfl hr2
  · -- the tail
    intro listed a' w' ⟨j,hj,loc',hinv,hjm,hwr,hhj,hrel,hext⟩ h0 f hf
    have hl:=headDone_eq hinv h0
    have all : ∀ i,i < lh.length→listed.getD i false=true:=by
      intro i hi
      rw [hl]
      have:i < l.length:=by simp at hnle;omega
      simp [headDone,this];omega
    have hjl:j=rkf fl fl.length:=by
      simp only [commBT,Bool.and_eq_true,Bool.or_eq_true,decide_eq_true_eq,List.any_eq_true,List.mem_range,beq_iff_eq] at hB
      rcases hB.2.1 with h0|⟨i,h1,h2,h3⟩
      · omega
      · have:=(hwr i (wrB_spec h2)).1 (all i (by omega))
        omega
    have hlast:hj=(fin.hp,fin.N):=by
      have h1:=ho.last
      rw [List.getLast?_eq_getElem?,hpl] at h1
      rw [hjl] at hhj
      simp only [Nat.add_sub_cancel] at h1
      rw [h1] at hhj
      exact (Option.some.inj hhj).symm
    subst hlast
    have hrf:Rel All L fin loc' a' w':=⟨hrel.defers,hrel.size,fun t _=>by
      have hk:known lh listed t=true:=by
        simp only [known,List.all_eq_true,List.mem_range,Bool.or_eq_true]
        exact fun i hi => .inr (all i hi)
      have h1:=hrel.fr t trivial
      rw [midS_get,if_neg (by rw [hk];simp)] at h1
      exact h1,hrel.hp⟩
    have hTL:TL P l.toArray (NQ Q) (l.drop n) fin:=WLW.sound (by rw [show NQ Q .normal=Q .normal from funext (NQ.normal Q)];simpa using hq)
    have hwl:=wpList_mono (fun _ _ _ k=>k.ext hext) (l.drop n) a' w' (hTL L loc' a' w' hrf)
    have hdl:(l.drop n).length=l.toArray.size - n:=by simp
    have:=wpAny_of_seq (md := .any) (Q':=TPost L loc w (NQ Q)) (l.drop n) n listed a' w' (fun j=>by simp [List.getElem?_drop]) (by rw [hdl,hl];exact hseq) hwl
    rw [hdl] at this
    have h2:=wpAny_more _ (f - (l.toArray.size - n)) _ _ _ this
    rwa [show l.toArray.size - n + (f - (l.toArray.size - n))=f by omega] at h2
  · -- the fuel
    have:headLeft (Array.replicate l.toArray.size false) n≤n:=by
      unfold headLeft
      exact Nat.le_trans (List.length_filter_le _ _) (by simp)
    omega
inductive AVles:List AV→List AV→Prop
  | nil:AVles [] []
  | cons {x y:AV} {xs ys:List AV} (h:AVle x y) (k:AVles xs ys):AVles (x :: xs) (y :: ys)
theorem AVles.refl : ∀ xs,AVles xs xs
  | [] => .nil
  | x :: xs => .cons (AVle.refl x) (AVles.refl xs)
theorem AVles.at' {xs ys:List AV} (h:AVles xs ys):ys.length=xs.length ∧ ∀ (j:Nat) y,ys[j]? = some y → ∃ x,xs[j]? = some x∧AVle x y:=by
  induction h with
  | nil=>exact ⟨rfl,fun j y h=>by simp at h⟩
  | cons h _ ih =>
    refine ⟨by simp [ih.1],fun j y hy=>?_⟩
    cases j with
    | zero=>simp at hy;subst hy;exact ⟨_,rfl,h⟩
    | succ j=>obtain ⟨x,h1,h2⟩:=ih.2 j y (by simpa using hy);exact ⟨x,by simpa using h1,h2⟩
theorem PureC.args {P:Program} {f:FuncId} {xs ys:List AV} {r:AV} (h:PureC P f ys r) (k:AVles xs ys):PureC P f xs r:=fun L w vs hL hvs=>h L w vs hL ⟨hvs.1.trans k.at'.1.symm,fun j y v hy hv=>by
  obtain ⟨x,h1,h2⟩:=k.at'.2 j y hy
  exact h2 _ _ _ _ _ (hvs.2 j x v h1 hv)⟩
theorem PureF.args {P:Program} {f:FuncId} {xs ys:List AV} {r:PV} (h:PureF P f ys r) (k:AVles xs ys):PureF P f xs r:=fun L w vs hL hvs=>h L w vs hL ⟨hvs.1.trans k.at'.1.symm,fun j y v hy hv=>by
  obtain ⟨x,h1,h2⟩:=k.at'.2 j y hy
  exact h2 _ _ _ _ _ (hvs.2 j x v h1 hv)⟩
theorem ams:(∀ (fr:List (Nat × AV)) (hp:Hp) (n N t:Nat),ASt.get { fr:=fr,hp:=hp,n:=n,N:=N } t=Option.getD (List.lookup t fr) AV.junk) ∧
    (∀ (fr:List (Nat × AV)) (hp:Hp) (n N t:Nat) (x:AV),ASt.put { fr:=fr,hp:=hp,n:=n,N:=N } (some t) x = { fr:=(t,x) :: fr,hp:=hp,n:=n,N:=N }) ∧
    (∀ (s:ASt) (x:AV),ASt.put s none x=s) ∧
    (∀ {α:Type} (t:Nat),List.lookup t ([] : List (Nat × α))=none) ∧
    (∀ {α:Type} (t k:Nat) (x : α) (l:List (Nat × α)),List.lookup t ((k,x) :: l)=if t=k then some x else List.lookup t l) ∧
    (∀ (k:IntKind) (n:Int),cv (Value.int k n)=AV.p (PV.val (Value.int k n))) ∧
    (∀ (b:Bool),cv (Value.bool b)=AV.p (PV.val (Value.bool b))) ∧
    (∀ (a:Option Addr) (n c:Nat),cv (Value.slice a n c)=AV.p (PV.val (Value.slice a n c))) ∧
    (∀ (s:ByteArray),cv (Value.string s)=AV.p (PV.val (Value.string s))) ∧
    (∀ (a:Option Addr),cv (Value.pointer a)=AV.p (PV.val (Value.pointer a))) ∧
    (∀ {α β:Type} {f : α → β} {a : α} {l:List α},List.map f (a :: l)=f a :: List.map f l) ∧
    (∀ {α β:Type} {f : α → β},List.map f ([] : List α)=([] : List β)) ∧
    (∀ {α:Type} {a : α} {l:List α},(a :: l)[0]? = some a) ∧
    (∀ {α:Type} {a : α} {i:Nat} {l:List α},(a :: l)[i + 1]? = l[i]?) ∧
    (∀ {α:Type} {a b : α},Option.getD (some a) b=a) ∧
    (∀ {α:Type} {a : α},Option.getD none a=a) ∧
    (∀ {α β:Type} (a : α) (f : α → β),Option.map f (some a)=some (f a)) ∧
    (∀ {α β:Type} (f : α → β),Option.map f none=none) ∧
    (∀ {α:Type} {x:Decidable True} (t e : α),(if True then t else e)=t) ∧
    (∀ {α:Type} {x:Decidable False} (t e : α),(if False then t else e)=e) ∧
    (∀ (p:Prop),(True∧p)=p) ∧
    (∀ (p:Prop),(p∧True)=p) ∧
    ((!true)=false) ∧
    ((!false)=true) ∧
    ((true=false)=False) ∧
    ((false=true)=False) ∧
    (∀ (p:Prop),(True→p)=p) ∧
    (∀ (p:Prop),(False→p)=True) ∧
    (∀ {α:Type} {a : α} {l1:List α},List.length (a :: l1)=List.length l1 + 1) ∧
    (∀ {α:Type},List.length ([] : List α)=0) ∧
    (∀ {α:Type} {a : α} {l1:List α} {i:Nat},List.take (i + 1) (a :: l1)=a :: List.take i l1) ∧
    (∀ {α:Type} {l:List α},List.take 0 l=([] : List α)) ∧
    (∀ {α:Type} {a : α} {l:List α} {i:Nat},List.drop (i + 1) (a :: l)=List.drop i l) ∧
    (∀ {α:Type} {l:List α},List.drop 0 l=l) ∧
    (∀ {α:Type} {a : α} {l1 bs:List α},a :: l1 ++ bs=a :: (l1 ++ bs)) ∧
    (∀ {α:Type} (l1:List α),[] ++ l1=l1) ∧
    (∀ {α:Type} {i:Nat},List.take i ([] : List α)=([] : List α)) ∧
    (∀ {α:Type} {i:Nat},List.drop i ([] : List α)=([] : List α)) ∧
    (∀ (n:Nat),0 + n=n) ∧
    (∀ (n:Nat),n + 0=n) ∧
    (∀ (n:Nat),n≤n) ∧
    (∀ (n:Nat),0≤n) ∧
    (∀ {α:Type} (l1:List α),l1 ++ []=l1) ∧
    (∀ {α:Type} {x : α} {xs:List α} {d : α},List.getD (x :: xs) 0 d=x) ∧
    (∀ {α:Type} {x : α} {xs:List α} {n:Nat} {d : α},List.getD (x :: xs) (n + 1) d=List.getD xs n d) ∧
    (∀ (n:Nat),Int.toNat (n:Int)=n) ∧
    (Int.toNat 0=0) ∧
    (∀ {α β:Type} {l1:List α} (f : α → β),List.length (List.map f l1)=List.length l1) ∧
    (∀ {α β:Type} {f : α → β} {l:List α} {i:Nat},(List.map f l)[i]? = Option.map f l[i]?) ∧
    (∀ (n:Nat),(0:Int)≤(n:Int)) ∧
    (∀ (t:Nat) (y:AV) (pin:Option Nat) (ty:TypeId) (cs:List AV),AO.sub t y (AO.boxP pin ty cs)=AO.boxP pin ty (List.map (AV.sub t y) cs)) ∧
    (∀ (t:Nat) (y:AV) (e n:Nat) (rows:List (List PV)),AO.sub t y (AO.row e n rows)=AO.row e n rows) ∧
    (∀ (t:Nat) (y:AV) (pin:Option Nat) (P:Program) (k n:Nat) (f:Lit→Option Value),AO.sub t y (AO.map pin P k n f)=AO.map pin P k n f) ∧
    (∀ (t:Nat) (y:AV) (u:Value) (ob:Obj),AO.sub t y (AO.raw u ob)=AO.raw u ob) ∧
    (∀ (t:Nat) (y:AV) (l:Nat) (sp:LSpec) (fr:List (Nat × AV)),AO.sub t y (AO.lrec l sp fr)=AO.lrec l sp (List.map (fun (p:Nat × AV)=>(Prod.fst p,AV.sub t y (Prod.snd p))) fr)) ∧
    (∀ (t:Nat) (y:AV) (e:Nat) (cs:List AV),AO.sub t y (AO.arow e cs)=AO.arow e (List.map (AV.sub t y) cs)) ∧
    (∀ (t:Nat) (y:AV) (x:PV),AV.sub t y (AV.p x)=AV.p x) ∧
    (∀ (t:Nat) (y:AV) (r:List PV) (k:Nat),AV.sub t y (AV.elt r k)=AV.elt r k) ∧
    (∀ (t:Nat) (y:AV) (k j:Nat),AV.sub t y (AV.ptr k j)=if k=t then AV.junk else AV.ptr k j) ∧
    (∀ (t:Nat) (y:AV) (k n i j:Nat),AV.sub t y (AV.rptr k n i j)=if k=t then AV.junk else AV.rptr k n i j) ∧
    (∀ (t:Nat) (y:AV) (k:Nat),AV.sub t y (AV.own k)=if k=t then y else AV.own k) ∧
    (∀ (t:Nat) (y:AV),AV.sub t y AV.junk=AV.junk) ∧
    (∀ (t:Nat) (y:AV),AV.sub t y AV.cap0=AV.cap0) ∧
    (∀ (t:Nat) (y:AV) (cs:List AV),AV.sub t y (AV.agg cs)=AV.agg (List.map (AV.sub t y) cs)) ∧
    (∀ (t:Nat) (y:AV) (f:Fn) (cs:List AV),AV.sub t y (AV.fn f cs)=AV.fn f (List.map (AV.sub t y) cs)) ∧
    (∀ (t:Nat) (y:AV) (cs:List AV),AV.sub t y (AV.tup cs)=AV.tup (List.map (AV.sub t y) cs)) ∧
    (∀ (t:Nat) (y:AV) (k m:Nat),AV.sub t y (AV.pre k m)=if k=t then AV.junk else AV.pre k m) :=
  ⟨@get_mk,@put_some,@put_none,@lk_nil,@lk_cons,@cv_int,@cv_bool,@cv_slice,@cv_string,@cv_ptr,@List.map_cons.{0,0},@List.map_nil.{0,0},@List.getElem?_cons_zero.{0},@List.getElem?_cons_succ.{0},@Option.getD_some.{0},@Option.getD_none.{0},@Option.map_some.{0,0},@Option.map_none.{0,0},@if_true.{1},@if_false.{1},@true_and,@and_true,@Bool.not_true,@Bool.not_false,@Bool.true_eq_false,@Bool.false_eq_true,@true_implies,@false_implies,@List.length_cons.{0},@List.length_nil.{0},@List.take_succ_cons.{0},@List.take_zero.{0},@List.drop_succ_cons.{0},@List.drop_zero.{0},@List.cons_append.{0},@List.nil_append.{0},@List.take_nil.{0},@List.drop_nil.{0},@Nat.zero_add,@Nat.add_zero,@Nat.le_refl,@Nat.zero_le,@List.append_nil.{0},@List.getD_cons_zero.{0},@List.getD_cons_succ.{0},@Int.toNat_natCast,Int.toNat_zero,@List.length_map.{0,0},@List.getElem?_map.{0,0},@Int.natCast_nonneg,@AO.sub_box,@AO.sub_row,@AO.sub_map,@AO.sub_raw,@AO.sub_lrec,@AO.sub_arow,@AV.sub_p,@AV.sub_elt,@AV.sub_ptr,@AV.sub_rptr,@AV.sub_own,@AV.sub_junk,@AV.sub_cap0,@AV.sub_agg,@AV.sub_fn,@AV.sub_tup,@AV.sub_pre⟩
theorem wks:(∀ {α:Type} {b : α} {l:List α} {a : α},a ∈ b :: l↔a=b∨a ∈ l) ∧
    (∀ {α:Type} {a : α},¬a ∈ ([] : List α)) ∧
    (∀ (p:Prop),(p∨False)=p) ∧
    (∀ {α:Type} {a' : α} {P Q : α→Prop},(∀ (a : α),a=a' ∨ Q a→P a)↔P a' ∧ ∀ (a : α),Q a→P a) ∧
    (∀ {α:Type} {p : α→Prop} {a' : α},(∀ (a : α),a=a' → p a)↔p a') ∧
    (∀ (fr:List (Nat × AV)) (hp:Hp) (n N t:Nat),ASt.get { fr:=fr,hp:=hp,n:=n,N:=N } t=Option.getD (List.lookup t fr) AV.junk) ∧
    (∀ {α:Type} (t k:Nat) (x : α) (l:List (Nat × α)),List.lookup t ((k,x) :: l)=if t=k then some x else List.lookup t l) ∧
    (∀ {α:Type} (t:Nat),List.lookup t ([] : List (Nat × α))=none) ∧
    (∀ {α:Type} {a b : α},Option.getD (some a) b=a) ∧
    (∀ {α:Type} {a : α},Option.getD none a=a) ∧
    (∀ (x:AV),AVle x x=True) ∧
    (∀ (n:Nat),AVle (AV.p (PV.val (Value.slice none 0 0))) (AV.p (PV.seq n []))=True) ∧
    (∀ (k:IntKind) (a b:Int),AVle (AV.p (PV.val (Value.int k a))) (AV.p (PV.val (Value.int k b)))=(a=b)) ∧
    (∀ (a b:Bool),AVle (AV.p (PV.val (Value.bool a))) (AV.p (PV.val (Value.bool b)))=(a=b)) ∧
    (∀ (x:AV),AVle x AV.junk=True) ∧
    (∀ (n:Nat) (pin:Option Nat) (ty:TypeId) (cs:List AV),AO.okB n (AO.boxP pin ty cs)=List.all cs (AV.okB n)) ∧
    (∀ (n e m:Nat) (rows:List (List PV)),AO.okB n (AO.row e m rows)=true) ∧
    (∀ (n:Nat) (pin:Option Nat) (P:Program) (k m:Nat) (f:Lit→Option Value),AO.okB n (AO.map pin P k m f)=true) ∧
    (∀ (n:Nat) (u:Value) (ob:Obj),AO.okB n (AO.raw u ob)=true) ∧
    (∀ (n l:Nat) (sp:LSpec) (fr:List (Nat × AV)),AO.okB n (AO.lrec l sp fr)=List.all fr fun (p:Nat × AV)=>AV.okB n (Prod.snd p)) ∧
    (∀ (n e:Nat) (cs:List AV),AO.okB n (AO.arow e cs)=List.all cs (AV.okB n)) ∧
    (∀ (n:Nat) (cs:List AV),AV.okB n (AV.agg cs)=List.all cs (AV.okB n)) ∧
    (∀ (n:Nat) (cs:List AV),AV.okB n (AV.tup cs)=List.all cs (AV.okB n)) ∧
    (∀ (n:Nat) (f:Fn) (cs:List AV),AV.okB n (AV.fn f cs)=List.all cs (AV.okB n)) ∧
    (∀ {α:Type} {a : α} {l:List α} {f : α→Bool},List.all (a :: l) f=(f a && List.all l f)) ∧
    (∀ {α:Type} {f : α→Bool},List.all ([] : List α) f=true) ∧
    (∀ (b:Bool),(b && b)=b) ∧
    (∀ (b:Bool),(b && true)=b) ∧
    (∀ (b:Bool),(true && b)=b) ∧
    (∀ (h:Decidable True),@decide True h=true) ∧
    (∀ (p:Prop),(True∧p)=p) ∧
    (∀ (p:Prop),(p∧True)=p) ∧
    (∀ (p:Prop),(False→p)=True) :=
  ⟨@List.mem_cons.{0},@List.not_mem_nil.{0},@or_false,@forall_eq_or_imp.{1},@forall_eq.{1},@get_mk,@lk_cons,@lk_nil,@Option.getD_some.{0},@Option.getD_none.{0},@AVle_refl,@AVle_nil,@AVle_int,@AVle_bool,@AVle_junk,@AO.okB_box,@AO.okB_row,@AO.okB_map,@AO.okB_raw,@AO.okB_lrec,@AO.okB_arow,@AV.okB_agg,@AV.okB_tup,@AV.okB_fn,@List.all_cons.{0},@List.all_nil.{0},@Bool.and_self,@Bool.and_true,@Bool.true_and,@decide_true,@true_and,@and_true,@false_implies⟩
set_option linter.defProp false in
def amz := And.intro @WS.eq_1 (And.intro @WH.eq_1 (And.intro @WO.eq_1 (And.intro @WOv.eq_1 (And.intro @WG.eq_1 (And.intro @dstOk.eq_1 (And.intro @hasDst.eq_1 (And.intro @aop.eq_1 (And.intro @aop.eq_2 (And.intro @aop.eq_3 (And.intro @aop.eq_4 (And.intro @aop.eq_5 (And.intro @aop.eq_6 (And.intro @aop.eq_7 (And.intro @aop.eq_8 (And.intro @aop.eq_9 (And.intro @aop.eq_10 (And.intro @aop.eq_11 (And.intro @aop.eq_12 (And.intro @aop.eq_13 (And.intro @aop.eq_14 (And.intro @aop.eq_15 (And.intro @aop.eq_16 (And.intro @aop.eq_17 (And.intro @aop.eq_18 (And.intro @aop.eq_19 (And.intro @aop.eq_20 (And.intro @aop.eq_21 (And.intro @ASt.ev.eq_1 (And.intro @ASt.ev.eq_2 (And.intro @ASt.ev.eq_3 (And.intro @ASt.ev.eq_4 (And.intro @aload.eq_1 (And.intro @aload.eq_2 (And.intro @aload.eq_3 (And.intro @aload.eq_4 (And.intro @aloadC.eq_1 (And.intro @afield.eq_1 (And.intro @afield.eq_2 (And.intro @afield.eq_3 (And.intro @afield.eq_4 (And.intro @aindex.eq_1 (And.intro @aindex.eq_2 (And.intro @aindex.eq_3 (And.intro @aindex.eq_4 (And.intro @aindex.eq_5 (And.intro @aindex.eq_6 (And.intro @abin.eq_1 (And.intro @abin.eq_2 (And.intro @abin.eq_3 (And.intro @abin.eq_4 (And.intro @abin.eq_5 (And.intro @abin.eq_6 (And.intro @abin.eq_7 (And.intro @abin.eq_8 (And.intro @abin.eq_9 (And.intro @abin.eq_10 (And.intro @abin.eq_11 (And.intro @abinI.eq_1 (And.intro @abinI.eq_2 (And.intro @abinI.eq_3 (And.intro @abinI.eq_4 (And.intro @abinI.eq_5 (And.intro @abinI.eq_6 (And.intro @abinI.eq_7 (And.intro @abinI.eq_8 (And.intro @abinI.eq_9 (And.intro @abinI.eq_10 (And.intro @abinI.eq_11 (And.intro @abinI.eq_12 (And.intro @aun.eq_1 (And.intro @aun.eq_2 (And.intro @aun.eq_3 (And.intro @alen.eq_1 (And.intro @alen.eq_2 (And.intro @alen.eq_3 (And.intro @alen.eq_4 (And.intro @alen.eq_5 (And.intro @alen.eq_6 (And.intro @acells.eq_1 (And.intro @acells.eq_2 (And.intro @acells.eq_3 (And.intro @acells.eq_4 (And.intro @acells.eq_5 (And.intro @acells.eq_6 (And.intro @acells.eq_7 (And.intro @acells.eq_8 (And.intro @acells.eq_9 (And.intro @acells.eq_10 (And.intro @ASt.add.eq_1 (And.intro @setHp.eq_1 (And.intro @asplice.eq_1 (And.intro @abuild.eq_1 (And.intro @afill.eq_1 (And.intro @afill.eq_2 (And.intro @abuildS.eq_1 (And.intro @pureL.eq_1 (And.intro @pureL.eq_2 (And.intro @pureL.eq_3 (And.intro @chunks.eq_1 (And.intro @chunks.eq_2 (And.intro @List.range.eq_1 (And.intro @List.range.loop.eq_1 (And.intro @List.range.loop.eq_2 (And.intro @apartF.eq_1 (And.intro @apartI.eq_1 (And.intro @aslice.eq_1 (And.intro @aslice.eq_2 (And.intro @aslice.eq_3 (And.intro @aslice.eq_4 (And.intro @evI.eq_1 (And.intro @evI.eq_2 (And.intro @ASt.subst.eq_1 (And.intro @AO.box.eq_1 (And.intro @aval.eq_1 (And.intro @aval.eq_2 (And.intro @aval.eq_3 (And.intro @pvals.eq_1 (And.intro @pvals.eq_2 (And.intro @pvals.eq_3 (@ams))))))))))))))))))))))))))))))))))))))))))))))))))))))))))))))))))))))))))))))))))))))))))))))))))))))))))))))))))))))))
end Go.Proofs.Ytnckehomadnhoaa
namespace Go.Proofs.Ytnckehomadnhoaa
open Go.RowKit Go.Sort
theorem ty_3:(tySz Try.prog 3=some 1)∧(tyRow Try.prog 3=some false)∧(scTy Try.prog 3=some 0)∧(tyZero Try.prog 3=some [Value.int IntKind.i64 0])∧(Try.prog.underlying 3=some (TypeDesc.int IntKind.i64)):=⟨by kernel_rfl,by kernel_rfl,by kernel_rfl,by kernel_rfl,by kernel_rfl⟩
theorem ty_4:(tySz Try.prog 4=some 1)∧(tyRow Try.prog 4=some false)∧(scTy Try.prog 4=some 1)∧(tyZero Try.prog 4=some [Value.bool false])∧(Try.prog.underlying 4=some TypeDesc.bool):=⟨by kernel_rfl,by kernel_rfl,by kernel_rfl,by kernel_rfl,by kernel_rfl⟩
theorem ty_5:(tySz Try.prog 5=some 1)∧(tyRow Try.prog 5=some false)∧(scTy Try.prog 5=some 0)∧(tyZero Try.prog 5=some [Value.int IntKind.u8 0])∧(Try.prog.underlying 5=some (TypeDesc.int IntKind.u8)):=⟨by kernel_rfl,by kernel_rfl,by kernel_rfl,by kernel_rfl,by kernel_rfl⟩
theorem ty_9:(tySz Try.prog 9=some 1)∧(tyRow Try.prog 9=some false)∧(scTy Try.prog 9=some 2)∧(tyZero Try.prog 9=some [Value.string ⟨#[]⟩])∧(Try.prog.underlying 9=some TypeDesc.string):=⟨by kernel_rfl,by kernel_rfl,by kernel_rfl,by kernel_rfl,by kernel_rfl⟩
theorem ty_22:(tySz Try.prog 22=some 1)∧(tyRow Try.prog 22=some false)∧(elemSz Try.prog 22=some 9)∧(elemTyB Try.prog 22=some (44,9,72))∧(tyZero Try.prog 22=some [Value.slice none 0 0])∧(isSl Try.prog 22=true)∧(Try.prog.underlying 22=some (TypeDesc.slice 44)):=⟨by kernel_rfl,by kernel_rfl,by kernel_rfl,by kernel_rfl,by kernel_rfl,by kernel_rfl,by kernel_rfl⟩
theorem ty_24:(tySz Try.prog 24=some 1)∧(tyRow Try.prog 24=some false)∧(elemSz Try.prog 24=some 3)∧(elemTyB Try.prog 24=some (49,3,24))∧(tyZero Try.prog 24=some [Value.slice none 0 0])∧(isSl Try.prog 24=true)∧(Try.prog.underlying 24=some (TypeDesc.slice 49)):=⟨by kernel_rfl,by kernel_rfl,by kernel_rfl,by kernel_rfl,by kernel_rfl,by kernel_rfl,by kernel_rfl⟩
theorem ty_25:(tySz Try.prog 25=some 1)∧(tyRow Try.prog 25=some false)∧(scTy Try.prog 25=some 0)∧(tyZero Try.prog 25=some [Value.int IntKind.i64 0])∧(Try.prog.underlying 25=some (TypeDesc.int IntKind.i64)):=⟨by kernel_rfl,by kernel_rfl,by kernel_rfl,by kernel_rfl,by kernel_rfl⟩
theorem ty_31:(tySz Try.prog 31=some 1)∧(tyRow Try.prog 31=some false)∧(elemSz Try.prog 31=some 1)∧(elemTyB Try.prog 31=some (33,1,24))∧(tyZero Try.prog 31=some [Value.slice none 0 0])∧(isSl Try.prog 31=true)∧(Try.prog.underlying 31=some (TypeDesc.slice 33)):=⟨by kernel_rfl,by kernel_rfl,by kernel_rfl,by kernel_rfl,by kernel_rfl,by kernel_rfl,by kernel_rfl⟩
theorem ty_33:(tySz Try.prog 33=some 1)∧(tyRow Try.prog 33=some false)∧(elemSz Try.prog 33=some 1)∧(elemTyB Try.prog 33=some (4,1,1))∧(tyZero Try.prog 33=some [Value.slice none 0 0])∧(isSl Try.prog 33=true)∧(Try.prog.underlying 33=some (TypeDesc.slice 4)):=⟨by kernel_rfl,by kernel_rfl,by kernel_rfl,by kernel_rfl,by kernel_rfl,by kernel_rfl,by kernel_rfl⟩
theorem ty_35:(tySz Try.prog 35=some 1)∧(tyRow Try.prog 35=some false)∧(elemSz Try.prog 35=some 1)∧(elemTyB Try.prog 35=some (3,1,8))∧(tyZero Try.prog 35=some [Value.slice none 0 0])∧(isSl Try.prog 35=true)∧(Try.prog.underlying 35=some (TypeDesc.slice 3)):=⟨by kernel_rfl,by kernel_rfl,by kernel_rfl,by kernel_rfl,by kernel_rfl,by kernel_rfl,by kernel_rfl⟩
theorem ty_39:(tySz Try.prog 39=some 1)∧(tyRow Try.prog 39=some false)∧(elemSz Try.prog 39=some 2)∧(elemTyB Try.prog 39=some (46,2,16))∧(tyZero Try.prog 39=some [Value.slice none 0 0])∧(isSl Try.prog 39=true)∧(Try.prog.underlying 39=some (TypeDesc.slice 46)):=⟨by kernel_rfl,by kernel_rfl,by kernel_rfl,by kernel_rfl,by kernel_rfl,by kernel_rfl,by kernel_rfl⟩
theorem ty_41:(tySz Try.prog 41=some 16)∧(tyRow Try.prog 41=some true)∧(elemA Try.prog 41=some (4,1,16))∧(tyZero Try.prog 41=some [Value.bool false,Value.bool false,Value.bool false,Value.bool false,Value.bool false,Value.bool false,Value.bool false,Value.bool false,Value.bool false,Value.bool false,Value.bool false,Value.bool false,Value.bool false,Value.bool false,Value.bool false,Value.bool false])∧(tyArray Try.prog 41=some ([Value.bool false,Value.bool false,Value.bool false,Value.bool false,Value.bool false,Value.bool false,Value.bool false,Value.bool false,Value.bool false,Value.bool false,Value.bool false,Value.bool false,Value.bool false,Value.bool false,Value.bool false,Value.bool false],1,16))∧(tyStruct Try.prog 41=none):=⟨by kernel_rfl,by kernel_rfl,by kernel_rfl,by kernel_rfl,by kernel_rfl,by kernel_rfl⟩
theorem ty_42:(tySz Try.prog 42=some 256)∧(tyRow Try.prog 42=some true)∧(elemA Try.prog 42=some (41,16,16))∧(tyStruct Try.prog 42=none):=⟨by kernel_rfl,by kernel_rfl,by kernel_rfl,by kernel_rfl⟩
theorem ty_44:(tySz Try.prog 44=some 9)∧(tyRow Try.prog 44=some true)∧(tyZero Try.prog 44=some [Value.int IntKind.i64 0,Value.int IntKind.i64 0,Value.int IntKind.i64 0,Value.int IntKind.i64 0,Value.int IntKind.i64 0,Value.int IntKind.i64 0,Value.int IntKind.i64 0,Value.int IntKind.i64 0,Value.int IntKind.i64 0])∧(tyStruct Try.prog 44=some ([Value.int IntKind.i64 0,Value.int IntKind.i64 0,Value.int IntKind.i64 0,Value.int IntKind.i64 0,Value.int IntKind.i64 0,Value.int IntKind.i64 0,Value.int IntKind.i64 0,Value.int IntKind.i64 0,Value.int IntKind.i64 0],[(0,1),(1,1),(2,1),(3,1),(4,1),(5,1),(6,1),(7,1),(8,1)]))∧(eqTy Try.prog 44=some [(0,0),(1,0),(2,0),(3,0),(4,0),(5,0),(6,0),(7,0),(8,0)])∧(fldOff Try.prog 44 0=some 0)∧(fldTy Try.prog 44 0=some (3,0))∧(fldOff Try.prog 44 1=some 1)∧(fldTy Try.prog 44 1=some (3,1))∧(fldOff Try.prog 44 2=some 2)∧(fldTy Try.prog 44 2=some (3,2))∧(fldOff Try.prog 44 3=some 3)∧(fldTy Try.prog 44 3=some (3,3))∧(fldOff Try.prog 44 4=some 4)∧(fldTy Try.prog 44 4=some (3,4))∧(fldOff Try.prog 44 5=some 5)∧(fldTy Try.prog 44 5=some (3,5))∧(fldOff Try.prog 44 6=some 6)∧(fldTy Try.prog 44 6=some (3,6))∧(fldOff Try.prog 44 7=some 7)∧(fldTy Try.prog 44 7=some (3,7))∧(fldOff Try.prog 44 8=some 8)∧(fldTy Try.prog 44 8=some (3,8)):=⟨by kernel_rfl,by kernel_rfl,by kernel_rfl,by kernel_rfl,by kernel_rfl,by kernel_rfl,by kernel_rfl,by kernel_rfl,by kernel_rfl,by kernel_rfl,by kernel_rfl,by kernel_rfl,by kernel_rfl,by kernel_rfl,by kernel_rfl,by kernel_rfl,by kernel_rfl,by kernel_rfl,by kernel_rfl,by kernel_rfl,by kernel_rfl,by kernel_rfl,by kernel_rfl⟩
theorem ty_46:(tySz Try.prog 46=some 2)∧(tyRow Try.prog 46=some true)∧(tyZero Try.prog 46=some [Value.int IntKind.i64 0,Value.int IntKind.i64 0])∧(tyStruct Try.prog 46=some ([Value.int IntKind.i64 0,Value.int IntKind.i64 0],[(0,1),(1,1)]))∧(eqTy Try.prog 46=some [(0,0),(1,0)])∧(fldOff Try.prog 46 0=some 0)∧(fldTy Try.prog 46 0=some (3,0))∧(fldOff Try.prog 46 1=some 1)∧(fldTy Try.prog 46 1=some (3,1)):=⟨by kernel_rfl,by kernel_rfl,by kernel_rfl,by kernel_rfl,by kernel_rfl,by kernel_rfl,by kernel_rfl,by kernel_rfl,by kernel_rfl⟩
theorem ty_47:(tySz Try.prog 47=some 24)∧(tyRow Try.prog 47=some true)∧(elemA Try.prog 47=some (4,1,24))∧(tyZero Try.prog 47=some [Value.bool false,Value.bool false,Value.bool false,Value.bool false,Value.bool false,Value.bool false,Value.bool false,Value.bool false,Value.bool false,Value.bool false,Value.bool false,Value.bool false,Value.bool false,Value.bool false,Value.bool false,Value.bool false,Value.bool false,Value.bool false,Value.bool false,Value.bool false,Value.bool false,Value.bool false,Value.bool false,Value.bool false])∧(tyArray Try.prog 47=some ([Value.bool false,Value.bool false,Value.bool false,Value.bool false,Value.bool false,Value.bool false,Value.bool false,Value.bool false,Value.bool false,Value.bool false,Value.bool false,Value.bool false,Value.bool false,Value.bool false,Value.bool false,Value.bool false,Value.bool false,Value.bool false,Value.bool false,Value.bool false,Value.bool false,Value.bool false,Value.bool false,Value.bool false],1,24))∧(tyStruct Try.prog 47=none):=⟨by kernel_rfl,by kernel_rfl,by kernel_rfl,by kernel_rfl,by kernel_rfl,by kernel_rfl⟩
theorem ty_49:(tySz Try.prog 49=some 3)∧(tyRow Try.prog 49=some true)∧(tyZero Try.prog 49=some [Value.int IntKind.i64 0,Value.int IntKind.i64 0,Value.int IntKind.i64 0])∧(tyStruct Try.prog 49=some ([Value.int IntKind.i64 0,Value.int IntKind.i64 0,Value.int IntKind.i64 0],[(0,1),(1,1),(2,1)]))∧(eqTy Try.prog 49=some [(0,0),(1,0),(2,0)])∧(fldOff Try.prog 49 0=some 0)∧(fldTy Try.prog 49 0=some (3,0))∧(fldOff Try.prog 49 1=some 1)∧(fldTy Try.prog 49 1=some (3,1))∧(fldOff Try.prog 49 2=some 2)∧(fldTy Try.prog 49 2=some (3,2)):=⟨by kernel_rfl,by kernel_rfl,by kernel_rfl,by kernel_rfl,by kernel_rfl,by kernel_rfl,by kernel_rfl,by kernel_rfl,by kernel_rfl,by kernel_rfl,by kernel_rfl⟩
theorem ty_58:(tySz Try.prog 58=some 1)∧(tyRow Try.prog 58=some false)∧(tyZero Try.prog 58=some [Value.nilFunc]):=⟨by kernel_rfl,by kernel_rfl,by kernel_rfl⟩
theorem ty_60:(tySz Try.prog 60=some 1)∧(tyRow Try.prog 60=some false)∧(tyZero Try.prog 60=some [Value.nilFunc]):=⟨by kernel_rfl,by kernel_rfl,by kernel_rfl⟩
theorem ty_65:(tySz Try.prog 65=some 1)∧(tyRow Try.prog 65=some false)∧(mapTy Try.prog 65=some (3,3,Value.int IntKind.i64 0))∧(tyZero Try.prog 65=some [Value.map none])∧(Try.prog.underlying 65=some (TypeDesc.map 3 3)):=⟨by kernel_rfl,by kernel_rfl,by kernel_rfl,by kernel_rfl,by kernel_rfl⟩
theorem ty_66:(tySz Try.prog 66=some 1)∧(tyRow Try.prog 66=some false)∧(mapTy Try.prog 66=some (69,35,Value.slice none 0 0))∧(tyZero Try.prog 66=some [Value.map none])∧(Try.prog.underlying 66=some (TypeDesc.map 69 35)):=⟨by kernel_rfl,by kernel_rfl,by kernel_rfl,by kernel_rfl,by kernel_rfl⟩
theorem ty_67:(tySz Try.prog 67=some 1)∧(tyRow Try.prog 67=some false)∧(mapTy Try.prog 67=some (69,3,Value.int IntKind.i64 0))∧(tyZero Try.prog 67=some [Value.map none])∧(Try.prog.underlying 67=some (TypeDesc.map 69 3)):=⟨by kernel_rfl,by kernel_rfl,by kernel_rfl,by kernel_rfl,by kernel_rfl⟩
theorem ty_69:(tySz Try.prog 69=some 2)∧(tyRow Try.prog 69=some true)∧(tyZero Try.prog 69=some [Value.int IntKind.i64 0,Value.int IntKind.i64 0])∧(tyStruct Try.prog 69=some ([Value.int IntKind.i64 0,Value.int IntKind.i64 0],[(0,1),(1,1)]))∧(eqTy Try.prog 69=some [(0,0),(1,0)])∧(fldOff Try.prog 69 0=some 0)∧(fldTy Try.prog 69 0=some (3,0))∧(fldOff Try.prog 69 1=some 1)∧(fldTy Try.prog 69 1=some (3,1)):=⟨by kernel_rfl,by kernel_rfl,by kernel_rfl,by kernel_rfl,by kernel_rfl,by kernel_rfl,by kernel_rfl,by kernel_rfl,by kernel_rfl⟩
theorem ty_73:(tySz Try.prog 73=some 1)∧(tyRow Try.prog 73=some false)∧(scTy Try.prog 73=some 0)∧(tyZero Try.prog 73=some [Value.int IntKind.u64 0])∧(Try.prog.underlying 73=some (TypeDesc.int IntKind.u64)):=⟨by kernel_rfl,by kernel_rfl,by kernel_rfl,by kernel_rfl,by kernel_rfl⟩
theorem ty_74:(tySz Try.prog 74=some 1)∧(tyRow Try.prog 74=some false)∧(elemSz Try.prog 74=some 5)∧(elemTyB Try.prog 74=some (111,5,40))∧(tyZero Try.prog 74=some [Value.slice none 0 0])∧(isSl Try.prog 74=true)∧(Try.prog.underlying 74=some (TypeDesc.slice 111)):=⟨by kernel_rfl,by kernel_rfl,by kernel_rfl,by kernel_rfl,by kernel_rfl,by kernel_rfl,by kernel_rfl⟩
theorem ty_75:(tySz Try.prog 75=some 1)∧(tyRow Try.prog 75=some false)∧(elemSz Try.prog 75=some 4)∧(elemTyB Try.prog 75=some (116,4,32))∧(tyZero Try.prog 75=some [Value.slice none 0 0])∧(isSl Try.prog 75=true)∧(Try.prog.underlying 75=some (TypeDesc.slice 116)):=⟨by kernel_rfl,by kernel_rfl,by kernel_rfl,by kernel_rfl,by kernel_rfl,by kernel_rfl,by kernel_rfl⟩
theorem ty_76:(tySz Try.prog 76=some 1)∧(tyRow Try.prog 76=some false)∧(elemSz Try.prog 76=some 2)∧(elemTyB Try.prog 76=some (120,2,16))∧(tyZero Try.prog 76=some [Value.slice none 0 0])∧(isSl Try.prog 76=true)∧(Try.prog.underlying 76=some (TypeDesc.slice 120)):=⟨by kernel_rfl,by kernel_rfl,by kernel_rfl,by kernel_rfl,by kernel_rfl,by kernel_rfl,by kernel_rfl⟩
theorem ty_77:(tySz Try.prog 77=some 1)∧(tyRow Try.prog 77=some false)∧(elemSz Try.prog 77=some 3)∧(elemTyB Try.prog 77=some (108,3,24))∧(tyZero Try.prog 77=some [Value.slice none 0 0])∧(isSl Try.prog 77=true)∧(Try.prog.underlying 77=some (TypeDesc.slice 108)):=⟨by kernel_rfl,by kernel_rfl,by kernel_rfl,by kernel_rfl,by kernel_rfl,by kernel_rfl,by kernel_rfl⟩
theorem ty_79:(tySz Try.prog 79=some 9)∧(tyRow Try.prog 79=some true)∧(tyZero Try.prog 79=some [Value.int IntKind.i64 0,Value.int IntKind.i64 0,Value.slice none 0 0,Value.slice none 0 0,Value.slice none 0 0,Value.slice none 0 0,Value.int IntKind.i64 0,Value.int IntKind.i64 0,Value.int IntKind.i64 0])∧(tyStruct Try.prog 79=some ([Value.int IntKind.i64 0,Value.int IntKind.i64 0,Value.slice none 0 0,Value.slice none 0 0,Value.slice none 0 0,Value.slice none 0 0,Value.int IntKind.i64 0,Value.int IntKind.i64 0,Value.int IntKind.i64 0],[(0,1),(1,1),(2,1),(3,1),(4,1),(5,1),(6,1),(7,1),(8,1)]))∧(fldOff Try.prog 79 0=some 0)∧(fldTy Try.prog 79 0=some (3,0))∧(fldOff Try.prog 79 1=some 1)∧(fldTy Try.prog 79 1=some (3,1))∧(fldOff Try.prog 79 2=some 2)∧(fldTy Try.prog 79 2=some (74,2))∧(fldOff Try.prog 79 3=some 3)∧(fldTy Try.prog 79 3=some (75,3))∧(fldOff Try.prog 79 4=some 4)∧(fldTy Try.prog 79 4=some (76,4))∧(fldOff Try.prog 79 5=some 5)∧(fldTy Try.prog 79 5=some (77,5))∧(fldOff Try.prog 79 6=some 6)∧(fldTy Try.prog 79 6=some (3,6))∧(fldOff Try.prog 79 7=some 7)∧(fldTy Try.prog 79 7=some (3,7))∧(fldOff Try.prog 79 8=some 8)∧(fldTy Try.prog 79 8=some (3,8)):=⟨by kernel_rfl,by kernel_rfl,by kernel_rfl,by kernel_rfl,by kernel_rfl,by kernel_rfl,by kernel_rfl,by kernel_rfl,by kernel_rfl,by kernel_rfl,by kernel_rfl,by kernel_rfl,by kernel_rfl,by kernel_rfl,by kernel_rfl,by kernel_rfl,by kernel_rfl,by kernel_rfl,by kernel_rfl,by kernel_rfl,by kernel_rfl,by kernel_rfl⟩
theorem ty_84:(tySz Try.prog 84=some 1)∧(tyRow Try.prog 84=some false)∧(ptTy Try.prog 84=some true)∧(tyZero Try.prog 84=some [Value.pointer none]):=⟨by kernel_rfl,by kernel_rfl,by kernel_rfl,by kernel_rfl⟩
theorem ty_88:(tySz Try.prog 88=some 1)∧(tyRow Try.prog 88=some false)∧(scTy Try.prog 88=some 0)∧(tyZero Try.prog 88=some [Value.int IntKind.i64 0])∧(Try.prog.underlying 88=some (TypeDesc.int IntKind.i64)):=⟨by kernel_rfl,by kernel_rfl,by kernel_rfl,by kernel_rfl,by kernel_rfl⟩
theorem ty_95:(tySz Try.prog 95=some 1)∧(tyRow Try.prog 95=some false)∧(scTy Try.prog 95=some 0)∧(tyZero Try.prog 95=some [Value.int IntKind.u32 0])∧(Try.prog.underlying 95=some (TypeDesc.int IntKind.u32)):=⟨by kernel_rfl,by kernel_rfl,by kernel_rfl,by kernel_rfl,by kernel_rfl⟩
theorem ty_97:(tySz Try.prog 97=some 1)∧(tyRow Try.prog 97=some false)∧(scTy Try.prog 97=some 0)∧(tyZero Try.prog 97=some [Value.int IntKind.u64 0])∧(Try.prog.underlying 97=some (TypeDesc.int IntKind.u64)):=⟨by kernel_rfl,by kernel_rfl,by kernel_rfl,by kernel_rfl,by kernel_rfl⟩
theorem ty_100:(tySz Try.prog 100=some 1)∧(tyRow Try.prog 100=some false)∧(scTy Try.prog 100=some 0)∧(tyZero Try.prog 100=some [Value.int IntKind.u64 0])∧(Try.prog.underlying 100=some (TypeDesc.int IntKind.u64)):=⟨by kernel_rfl,by kernel_rfl,by kernel_rfl,by kernel_rfl,by kernel_rfl⟩
theorem ty_104:(tySz Try.prog 104=some 1)∧(tyRow Try.prog 104=some false)∧(ptTy Try.prog 104=some true)∧(tyZero Try.prog 104=some [Value.pointer none]):=⟨by kernel_rfl,by kernel_rfl,by kernel_rfl,by kernel_rfl⟩
theorem ty_108:(tySz Try.prog 108=some 3)∧(tyRow Try.prog 108=some true)∧(tyZero Try.prog 108=some [Value.int IntKind.i64 0,Value.int IntKind.i64 0,Value.int IntKind.i64 0])∧(tyStruct Try.prog 108=some ([Value.int IntKind.i64 0,Value.int IntKind.i64 0,Value.int IntKind.i64 0],[(0,1),(1,1),(2,1)]))∧(eqTy Try.prog 108=some [(0,0),(1,0),(2,0)])∧(fldOff Try.prog 108 0=some 0)∧(fldTy Try.prog 108 0=some (3,0))∧(fldOff Try.prog 108 1=some 1)∧(fldTy Try.prog 108 1=some (3,1))∧(fldOff Try.prog 108 2=some 2)∧(fldTy Try.prog 108 2=some (3,2)):=⟨by kernel_rfl,by kernel_rfl,by kernel_rfl,by kernel_rfl,by kernel_rfl,by kernel_rfl,by kernel_rfl,by kernel_rfl,by kernel_rfl,by kernel_rfl,by kernel_rfl⟩
theorem ty_111:(tySz Try.prog 111=some 5)∧(tyRow Try.prog 111=some true)∧(tyZero Try.prog 111=some [Value.int IntKind.i64 0,Value.int IntKind.i64 0,Value.int IntKind.i64 0,Value.int IntKind.i64 0,Value.bool false])∧(tyStruct Try.prog 111=some ([Value.int IntKind.i64 0,Value.int IntKind.i64 0,Value.int IntKind.i64 0,Value.int IntKind.i64 0,Value.bool false],[(0,1),(1,1),(2,1),(3,1),(4,1)]))∧(eqTy Try.prog 111=some [(0,0),(1,0),(2,0),(3,0),(4,1)])∧(fldOff Try.prog 111 0=some 0)∧(fldTy Try.prog 111 0=some (3,0))∧(fldOff Try.prog 111 1=some 1)∧(fldTy Try.prog 111 1=some (3,1))∧(fldOff Try.prog 111 2=some 2)∧(fldTy Try.prog 111 2=some (3,2))∧(fldOff Try.prog 111 3=some 3)∧(fldTy Try.prog 111 3=some (3,3))∧(fldOff Try.prog 111 4=some 4)∧(fldTy Try.prog 111 4=some (4,4)):=⟨by kernel_rfl,by kernel_rfl,by kernel_rfl,by kernel_rfl,by kernel_rfl,by kernel_rfl,by kernel_rfl,by kernel_rfl,by kernel_rfl,by kernel_rfl,by kernel_rfl,by kernel_rfl,by kernel_rfl,by kernel_rfl,by kernel_rfl⟩
theorem ty_116:(tySz Try.prog 116=some 4)∧(tyRow Try.prog 116=some true)∧(tyZero Try.prog 116=some [Value.int IntKind.i64 0,Value.int IntKind.i64 0,Value.bool false,Value.int IntKind.i64 0])∧(tyStruct Try.prog 116=some ([Value.int IntKind.i64 0,Value.int IntKind.i64 0,Value.bool false,Value.int IntKind.i64 0],[(0,1),(1,1),(2,1),(3,1)]))∧(eqTy Try.prog 116=some [(0,0),(1,0),(2,1),(3,0)])∧(fldOff Try.prog 116 0=some 0)∧(fldTy Try.prog 116 0=some (3,0))∧(fldOff Try.prog 116 1=some 1)∧(fldTy Try.prog 116 1=some (3,1))∧(fldOff Try.prog 116 2=some 2)∧(fldTy Try.prog 116 2=some (4,2))∧(fldOff Try.prog 116 3=some 3)∧(fldTy Try.prog 116 3=some (3,3)):=⟨by kernel_rfl,by kernel_rfl,by kernel_rfl,by kernel_rfl,by kernel_rfl,by kernel_rfl,by kernel_rfl,by kernel_rfl,by kernel_rfl,by kernel_rfl,by kernel_rfl,by kernel_rfl,by kernel_rfl⟩
theorem ty_120:(tySz Try.prog 120=some 2)∧(tyRow Try.prog 120=some true)∧(tyZero Try.prog 120=some [Value.int IntKind.i64 0,Value.int IntKind.i64 0])∧(tyStruct Try.prog 120=some ([Value.int IntKind.i64 0,Value.int IntKind.i64 0],[(0,1),(1,1)]))∧(eqTy Try.prog 120=some [(0,0),(1,0)])∧(fldOff Try.prog 120 0=some 0)∧(fldTy Try.prog 120 0=some (3,0))∧(fldOff Try.prog 120 1=some 1)∧(fldTy Try.prog 120 1=some (3,1)):=⟨by kernel_rfl,by kernel_rfl,by kernel_rfl,by kernel_rfl,by kernel_rfl,by kernel_rfl,by kernel_rfl,by kernel_rfl,by kernel_rfl⟩
theorem ty_121:(tySz Try.prog 121=some 1)∧(tyRow Try.prog 121=some false)∧(mapTy Try.prog 121=some (3,136,Value.agg { toList := [Value.int IntKind.i64 0,Value.int IntKind.i64 0,Value.int IntKind.i64 0,Value.bool false] }))∧(tyZero Try.prog 121=some [Value.map none])∧(Try.prog.underlying 121=some (TypeDesc.map 3 136)):=⟨by kernel_rfl,by kernel_rfl,by kernel_rfl,by kernel_rfl,by kernel_rfl⟩
theorem ty_122:(tySz Try.prog 122=some 1)∧(tyRow Try.prog 122=some false)∧(mapTy Try.prog 122=some (120,139,Value.agg { toList := [Value.bool false,Value.int IntKind.i64 0] }))∧(tyZero Try.prog 122=some [Value.map none])∧(Try.prog.underlying 122=some (TypeDesc.map 120 139)):=⟨by kernel_rfl,by kernel_rfl,by kernel_rfl,by kernel_rfl,by kernel_rfl⟩
theorem ty_123:(tySz Try.prog 123=some 1)∧(tyRow Try.prog 123=some false)∧(mapTy Try.prog 123=some (120,4,Value.bool false))∧(tyZero Try.prog 123=some [Value.map none])∧(Try.prog.underlying 123=some (TypeDesc.map 120 4)):=⟨by kernel_rfl,by kernel_rfl,by kernel_rfl,by kernel_rfl,by kernel_rfl⟩
theorem ty_125:(tySz Try.prog 125=some 6)∧(tyRow Try.prog 125=some true)∧(tyZero Try.prog 125=some [Value.slice none 0 0,Value.int IntKind.i64 0,Value.int IntKind.i64 0,Value.int IntKind.i64 0,Value.int IntKind.i64 0,Value.int IntKind.i64 0])∧(tyStruct Try.prog 125=some ([Value.slice none 0 0,Value.int IntKind.i64 0,Value.int IntKind.i64 0,Value.int IntKind.i64 0,Value.int IntKind.i64 0,Value.int IntKind.i64 0],[(0,1),(1,1),(2,1),(3,1),(4,1),(5,1)]))∧(fldOff Try.prog 125 0=some 0)∧(fldTy Try.prog 125 0=some (35,0))∧(fldOff Try.prog 125 1=some 1)∧(fldTy Try.prog 125 1=some (3,1))∧(fldOff Try.prog 125 2=some 2)∧(fldTy Try.prog 125 2=some (3,2))∧(fldOff Try.prog 125 3=some 3)∧(fldTy Try.prog 125 3=some (3,3))∧(fldOff Try.prog 125 4=some 4)∧(fldTy Try.prog 125 4=some (3,4))∧(fldOff Try.prog 125 5=some 5)∧(fldTy Try.prog 125 5=some (3,5)):=⟨by kernel_rfl,by kernel_rfl,by kernel_rfl,by kernel_rfl,by kernel_rfl,by kernel_rfl,by kernel_rfl,by kernel_rfl,by kernel_rfl,by kernel_rfl,by kernel_rfl,by kernel_rfl,by kernel_rfl,by kernel_rfl,by kernel_rfl,by kernel_rfl⟩
theorem ty_127:(tySz Try.prog 127=some 11)∧(tyRow Try.prog 127=some true)∧(tyZero Try.prog 127=some [Value.int IntKind.i64 0,Value.int IntKind.i64 0,Value.map none,Value.map none,Value.map none,Value.slice none 0 0,Value.int IntKind.i64 0,Value.int IntKind.i64 0,Value.int IntKind.i64 0,Value.int IntKind.i64 0,Value.int IntKind.i64 0])∧(tyStruct Try.prog 127=some ([Value.int IntKind.i64 0,Value.int IntKind.i64 0,Value.map none,Value.map none,Value.map none,Value.slice none 0 0,Value.int IntKind.i64 0,Value.int IntKind.i64 0,Value.int IntKind.i64 0,Value.int IntKind.i64 0,Value.int IntKind.i64 0],[(0,1),(1,1),(2,1),(3,1),(4,1),(5,6)]))∧(fldOff Try.prog 127 0=some 0)∧(fldTy Try.prog 127 0=some (3,0))∧(fldOff Try.prog 127 1=some 1)∧(fldTy Try.prog 127 1=some (3,1))∧(fldOff Try.prog 127 2=some 2)∧(fldTy Try.prog 127 2=some (121,2))∧(fldOff Try.prog 127 3=some 3)∧(fldTy Try.prog 127 3=some (122,3))∧(fldOff Try.prog 127 4=some 4)∧(fldTy Try.prog 127 4=some (123,4))∧(fldOff Try.prog 127 5=some 5)∧(fldTy Try.prog 127 5=some (125,5)):=⟨by kernel_rfl,by kernel_rfl,by kernel_rfl,by kernel_rfl,by kernel_rfl,by kernel_rfl,by kernel_rfl,by kernel_rfl,by kernel_rfl,by kernel_rfl,by kernel_rfl,by kernel_rfl,by kernel_rfl,by kernel_rfl,by kernel_rfl,by kernel_rfl⟩
theorem ty_131:(tySz Try.prog 131=some 1)∧(tyRow Try.prog 131=some false)∧(elemSz Try.prog 131=some 1)∧(elemTyB Try.prog 131=some (9,1,16))∧(tyZero Try.prog 131=some [Value.slice none 0 0])∧(isSl Try.prog 131=true)∧(Try.prog.underlying 131=some (TypeDesc.slice 9)):=⟨by kernel_rfl,by kernel_rfl,by kernel_rfl,by kernel_rfl,by kernel_rfl,by kernel_rfl,by kernel_rfl⟩
theorem ty_132:(tySz Try.prog 132=some 7)∧(tyRow Try.prog 132=some true)∧(elemA Try.prog 132=some (3,1,7))∧(tyZero Try.prog 132=some [Value.int IntKind.i64 0,Value.int IntKind.i64 0,Value.int IntKind.i64 0,Value.int IntKind.i64 0,Value.int IntKind.i64 0,Value.int IntKind.i64 0,Value.int IntKind.i64 0])∧(tyArray Try.prog 132=some ([Value.int IntKind.i64 0,Value.int IntKind.i64 0,Value.int IntKind.i64 0,Value.int IntKind.i64 0,Value.int IntKind.i64 0,Value.int IntKind.i64 0,Value.int IntKind.i64 0],1,7))∧(tyStruct Try.prog 132=none):=⟨by kernel_rfl,by kernel_rfl,by kernel_rfl,by kernel_rfl,by kernel_rfl,by kernel_rfl⟩
theorem ty_133:(tySz Try.prog 133=some 1)∧(tyRow Try.prog 133=some false)∧(ptTy Try.prog 133=some true)∧(tyZero Try.prog 133=some [Value.pointer none]):=⟨by kernel_rfl,by kernel_rfl,by kernel_rfl,by kernel_rfl⟩
theorem ty_136:(tySz Try.prog 136=some 4)∧(tyRow Try.prog 136=some true)∧(tyZero Try.prog 136=some [Value.int IntKind.i64 0,Value.int IntKind.i64 0,Value.int IntKind.i64 0,Value.bool false])∧(tyStruct Try.prog 136=some ([Value.int IntKind.i64 0,Value.int IntKind.i64 0,Value.int IntKind.i64 0,Value.bool false],[(0,1),(1,1),(2,1),(3,1)]))∧(eqTy Try.prog 136=some [(0,0),(1,0),(2,0),(3,1)])∧(fldOff Try.prog 136 0=some 0)∧(fldTy Try.prog 136 0=some (3,0))∧(fldOff Try.prog 136 1=some 1)∧(fldTy Try.prog 136 1=some (3,1))∧(fldOff Try.prog 136 2=some 2)∧(fldTy Try.prog 136 2=some (3,2))∧(fldOff Try.prog 136 3=some 3)∧(fldTy Try.prog 136 3=some (4,3)):=⟨by kernel_rfl,by kernel_rfl,by kernel_rfl,by kernel_rfl,by kernel_rfl,by kernel_rfl,by kernel_rfl,by kernel_rfl,by kernel_rfl,by kernel_rfl,by kernel_rfl,by kernel_rfl,by kernel_rfl⟩
theorem ty_139:(tySz Try.prog 139=some 2)∧(tyRow Try.prog 139=some true)∧(tyZero Try.prog 139=some [Value.bool false,Value.int IntKind.i64 0])∧(tyStruct Try.prog 139=some ([Value.bool false,Value.int IntKind.i64 0],[(0,1),(1,1)]))∧(eqTy Try.prog 139=some [(0,1),(1,0)])∧(fldOff Try.prog 139 0=some 0)∧(fldTy Try.prog 139 0=some (4,0))∧(fldOff Try.prog 139 1=some 1)∧(fldTy Try.prog 139 1=some (3,1)):=⟨by kernel_rfl,by kernel_rfl,by kernel_rfl,by kernel_rfl,by kernel_rfl,by kernel_rfl,by kernel_rfl,by kernel_rfl,by kernel_rfl⟩
theorem tys:((tySz Try.prog 3=some 1)∧(tyRow Try.prog 3=some false)∧(scTy Try.prog 3=some 0)∧(tyZero Try.prog 3=some [Value.int IntKind.i64 0])∧(Try.prog.underlying 3=some (TypeDesc.int IntKind.i64))) ∧
    ((tySz Try.prog 4=some 1)∧(tyRow Try.prog 4=some false)∧(scTy Try.prog 4=some 1)∧(tyZero Try.prog 4=some [Value.bool false])∧(Try.prog.underlying 4=some TypeDesc.bool)) ∧
    ((tySz Try.prog 5=some 1)∧(tyRow Try.prog 5=some false)∧(scTy Try.prog 5=some 0)∧(tyZero Try.prog 5=some [Value.int IntKind.u8 0])∧(Try.prog.underlying 5=some (TypeDesc.int IntKind.u8))) ∧
    ((tySz Try.prog 9=some 1)∧(tyRow Try.prog 9=some false)∧(scTy Try.prog 9=some 2)∧(tyZero Try.prog 9=some [Value.string ⟨#[]⟩])∧(Try.prog.underlying 9=some TypeDesc.string)) ∧
    ((tySz Try.prog 22=some 1)∧(tyRow Try.prog 22=some false)∧(elemSz Try.prog 22=some 9)∧(elemTyB Try.prog 22=some (44,9,72))∧(tyZero Try.prog 22=some [Value.slice none 0 0])∧(isSl Try.prog 22=true)∧(Try.prog.underlying 22=some (TypeDesc.slice 44))) ∧
    ((tySz Try.prog 24=some 1)∧(tyRow Try.prog 24=some false)∧(elemSz Try.prog 24=some 3)∧(elemTyB Try.prog 24=some (49,3,24))∧(tyZero Try.prog 24=some [Value.slice none 0 0])∧(isSl Try.prog 24=true)∧(Try.prog.underlying 24=some (TypeDesc.slice 49))) ∧
    ((tySz Try.prog 25=some 1)∧(tyRow Try.prog 25=some false)∧(scTy Try.prog 25=some 0)∧(tyZero Try.prog 25=some [Value.int IntKind.i64 0])∧(Try.prog.underlying 25=some (TypeDesc.int IntKind.i64))) ∧
    ((tySz Try.prog 31=some 1)∧(tyRow Try.prog 31=some false)∧(elemSz Try.prog 31=some 1)∧(elemTyB Try.prog 31=some (33,1,24))∧(tyZero Try.prog 31=some [Value.slice none 0 0])∧(isSl Try.prog 31=true)∧(Try.prog.underlying 31=some (TypeDesc.slice 33))) ∧
    ((tySz Try.prog 33=some 1)∧(tyRow Try.prog 33=some false)∧(elemSz Try.prog 33=some 1)∧(elemTyB Try.prog 33=some (4,1,1))∧(tyZero Try.prog 33=some [Value.slice none 0 0])∧(isSl Try.prog 33=true)∧(Try.prog.underlying 33=some (TypeDesc.slice 4))) ∧
    ((tySz Try.prog 35=some 1)∧(tyRow Try.prog 35=some false)∧(elemSz Try.prog 35=some 1)∧(elemTyB Try.prog 35=some (3,1,8))∧(tyZero Try.prog 35=some [Value.slice none 0 0])∧(isSl Try.prog 35=true)∧(Try.prog.underlying 35=some (TypeDesc.slice 3))) ∧
    ((tySz Try.prog 39=some 1)∧(tyRow Try.prog 39=some false)∧(elemSz Try.prog 39=some 2)∧(elemTyB Try.prog 39=some (46,2,16))∧(tyZero Try.prog 39=some [Value.slice none 0 0])∧(isSl Try.prog 39=true)∧(Try.prog.underlying 39=some (TypeDesc.slice 46))) ∧
    ((tySz Try.prog 41=some 16)∧(tyRow Try.prog 41=some true)∧(elemA Try.prog 41=some (4,1,16))∧(tyZero Try.prog 41=some [Value.bool false,Value.bool false,Value.bool false,Value.bool false,Value.bool false,Value.bool false,Value.bool false,Value.bool false,Value.bool false,Value.bool false,Value.bool false,Value.bool false,Value.bool false,Value.bool false,Value.bool false,Value.bool false])∧(tyArray Try.prog 41=some ([Value.bool false,Value.bool false,Value.bool false,Value.bool false,Value.bool false,Value.bool false,Value.bool false,Value.bool false,Value.bool false,Value.bool false,Value.bool false,Value.bool false,Value.bool false,Value.bool false,Value.bool false,Value.bool false],1,16))∧(tyStruct Try.prog 41=none)) ∧
    ((tySz Try.prog 42=some 256)∧(tyRow Try.prog 42=some true)∧(elemA Try.prog 42=some (41,16,16))∧(tyStruct Try.prog 42=none)) ∧
    ((tySz Try.prog 44=some 9)∧(tyRow Try.prog 44=some true)∧(tyZero Try.prog 44=some [Value.int IntKind.i64 0,Value.int IntKind.i64 0,Value.int IntKind.i64 0,Value.int IntKind.i64 0,Value.int IntKind.i64 0,Value.int IntKind.i64 0,Value.int IntKind.i64 0,Value.int IntKind.i64 0,Value.int IntKind.i64 0])∧(tyStruct Try.prog 44=some ([Value.int IntKind.i64 0,Value.int IntKind.i64 0,Value.int IntKind.i64 0,Value.int IntKind.i64 0,Value.int IntKind.i64 0,Value.int IntKind.i64 0,Value.int IntKind.i64 0,Value.int IntKind.i64 0,Value.int IntKind.i64 0],[(0,1),(1,1),(2,1),(3,1),(4,1),(5,1),(6,1),(7,1),(8,1)]))∧(eqTy Try.prog 44=some [(0,0),(1,0),(2,0),(3,0),(4,0),(5,0),(6,0),(7,0),(8,0)])∧(fldOff Try.prog 44 0=some 0)∧(fldTy Try.prog 44 0=some (3,0))∧(fldOff Try.prog 44 1=some 1)∧(fldTy Try.prog 44 1=some (3,1))∧(fldOff Try.prog 44 2=some 2)∧(fldTy Try.prog 44 2=some (3,2))∧(fldOff Try.prog 44 3=some 3)∧(fldTy Try.prog 44 3=some (3,3))∧(fldOff Try.prog 44 4=some 4)∧(fldTy Try.prog 44 4=some (3,4))∧(fldOff Try.prog 44 5=some 5)∧(fldTy Try.prog 44 5=some (3,5))∧(fldOff Try.prog 44 6=some 6)∧(fldTy Try.prog 44 6=some (3,6))∧(fldOff Try.prog 44 7=some 7)∧(fldTy Try.prog 44 7=some (3,7))∧(fldOff Try.prog 44 8=some 8)∧(fldTy Try.prog 44 8=some (3,8))) ∧
    ((tySz Try.prog 46=some 2)∧(tyRow Try.prog 46=some true)∧(tyZero Try.prog 46=some [Value.int IntKind.i64 0,Value.int IntKind.i64 0])∧(tyStruct Try.prog 46=some ([Value.int IntKind.i64 0,Value.int IntKind.i64 0],[(0,1),(1,1)]))∧(eqTy Try.prog 46=some [(0,0),(1,0)])∧(fldOff Try.prog 46 0=some 0)∧(fldTy Try.prog 46 0=some (3,0))∧(fldOff Try.prog 46 1=some 1)∧(fldTy Try.prog 46 1=some (3,1))) ∧
    ((tySz Try.prog 47=some 24)∧(tyRow Try.prog 47=some true)∧(elemA Try.prog 47=some (4,1,24))∧(tyZero Try.prog 47=some [Value.bool false,Value.bool false,Value.bool false,Value.bool false,Value.bool false,Value.bool false,Value.bool false,Value.bool false,Value.bool false,Value.bool false,Value.bool false,Value.bool false,Value.bool false,Value.bool false,Value.bool false,Value.bool false,Value.bool false,Value.bool false,Value.bool false,Value.bool false,Value.bool false,Value.bool false,Value.bool false,Value.bool false])∧(tyArray Try.prog 47=some ([Value.bool false,Value.bool false,Value.bool false,Value.bool false,Value.bool false,Value.bool false,Value.bool false,Value.bool false,Value.bool false,Value.bool false,Value.bool false,Value.bool false,Value.bool false,Value.bool false,Value.bool false,Value.bool false,Value.bool false,Value.bool false,Value.bool false,Value.bool false,Value.bool false,Value.bool false,Value.bool false,Value.bool false],1,24))∧(tyStruct Try.prog 47=none)) ∧
    ((tySz Try.prog 49=some 3)∧(tyRow Try.prog 49=some true)∧(tyZero Try.prog 49=some [Value.int IntKind.i64 0,Value.int IntKind.i64 0,Value.int IntKind.i64 0])∧(tyStruct Try.prog 49=some ([Value.int IntKind.i64 0,Value.int IntKind.i64 0,Value.int IntKind.i64 0],[(0,1),(1,1),(2,1)]))∧(eqTy Try.prog 49=some [(0,0),(1,0),(2,0)])∧(fldOff Try.prog 49 0=some 0)∧(fldTy Try.prog 49 0=some (3,0))∧(fldOff Try.prog 49 1=some 1)∧(fldTy Try.prog 49 1=some (3,1))∧(fldOff Try.prog 49 2=some 2)∧(fldTy Try.prog 49 2=some (3,2))) ∧
    ((tySz Try.prog 58=some 1)∧(tyRow Try.prog 58=some false)∧(tyZero Try.prog 58=some [Value.nilFunc])) ∧
    ((tySz Try.prog 60=some 1)∧(tyRow Try.prog 60=some false)∧(tyZero Try.prog 60=some [Value.nilFunc])) ∧
    ((tySz Try.prog 65=some 1)∧(tyRow Try.prog 65=some false)∧(mapTy Try.prog 65=some (3,3,Value.int IntKind.i64 0))∧(tyZero Try.prog 65=some [Value.map none])∧(Try.prog.underlying 65=some (TypeDesc.map 3 3))) ∧
    ((tySz Try.prog 66=some 1)∧(tyRow Try.prog 66=some false)∧(mapTy Try.prog 66=some (69,35,Value.slice none 0 0))∧(tyZero Try.prog 66=some [Value.map none])∧(Try.prog.underlying 66=some (TypeDesc.map 69 35))) ∧
    ((tySz Try.prog 67=some 1)∧(tyRow Try.prog 67=some false)∧(mapTy Try.prog 67=some (69,3,Value.int IntKind.i64 0))∧(tyZero Try.prog 67=some [Value.map none])∧(Try.prog.underlying 67=some (TypeDesc.map 69 3))) ∧
    ((tySz Try.prog 69=some 2)∧(tyRow Try.prog 69=some true)∧(tyZero Try.prog 69=some [Value.int IntKind.i64 0,Value.int IntKind.i64 0])∧(tyStruct Try.prog 69=some ([Value.int IntKind.i64 0,Value.int IntKind.i64 0],[(0,1),(1,1)]))∧(eqTy Try.prog 69=some [(0,0),(1,0)])∧(fldOff Try.prog 69 0=some 0)∧(fldTy Try.prog 69 0=some (3,0))∧(fldOff Try.prog 69 1=some 1)∧(fldTy Try.prog 69 1=some (3,1))) ∧
    ((tySz Try.prog 73=some 1)∧(tyRow Try.prog 73=some false)∧(scTy Try.prog 73=some 0)∧(tyZero Try.prog 73=some [Value.int IntKind.u64 0])∧(Try.prog.underlying 73=some (TypeDesc.int IntKind.u64))) ∧
    ((tySz Try.prog 74=some 1)∧(tyRow Try.prog 74=some false)∧(elemSz Try.prog 74=some 5)∧(elemTyB Try.prog 74=some (111,5,40))∧(tyZero Try.prog 74=some [Value.slice none 0 0])∧(isSl Try.prog 74=true)∧(Try.prog.underlying 74=some (TypeDesc.slice 111))) ∧
    ((tySz Try.prog 75=some 1)∧(tyRow Try.prog 75=some false)∧(elemSz Try.prog 75=some 4)∧(elemTyB Try.prog 75=some (116,4,32))∧(tyZero Try.prog 75=some [Value.slice none 0 0])∧(isSl Try.prog 75=true)∧(Try.prog.underlying 75=some (TypeDesc.slice 116))) ∧
    ((tySz Try.prog 76=some 1)∧(tyRow Try.prog 76=some false)∧(elemSz Try.prog 76=some 2)∧(elemTyB Try.prog 76=some (120,2,16))∧(tyZero Try.prog 76=some [Value.slice none 0 0])∧(isSl Try.prog 76=true)∧(Try.prog.underlying 76=some (TypeDesc.slice 120))) ∧
    ((tySz Try.prog 77=some 1)∧(tyRow Try.prog 77=some false)∧(elemSz Try.prog 77=some 3)∧(elemTyB Try.prog 77=some (108,3,24))∧(tyZero Try.prog 77=some [Value.slice none 0 0])∧(isSl Try.prog 77=true)∧(Try.prog.underlying 77=some (TypeDesc.slice 108))) ∧
    ((tySz Try.prog 79=some 9)∧(tyRow Try.prog 79=some true)∧(tyZero Try.prog 79=some [Value.int IntKind.i64 0,Value.int IntKind.i64 0,Value.slice none 0 0,Value.slice none 0 0,Value.slice none 0 0,Value.slice none 0 0,Value.int IntKind.i64 0,Value.int IntKind.i64 0,Value.int IntKind.i64 0])∧(tyStruct Try.prog 79=some ([Value.int IntKind.i64 0,Value.int IntKind.i64 0,Value.slice none 0 0,Value.slice none 0 0,Value.slice none 0 0,Value.slice none 0 0,Value.int IntKind.i64 0,Value.int IntKind.i64 0,Value.int IntKind.i64 0],[(0,1),(1,1),(2,1),(3,1),(4,1),(5,1),(6,1),(7,1),(8,1)]))∧(fldOff Try.prog 79 0=some 0)∧(fldTy Try.prog 79 0=some (3,0))∧(fldOff Try.prog 79 1=some 1)∧(fldTy Try.prog 79 1=some (3,1))∧(fldOff Try.prog 79 2=some 2)∧(fldTy Try.prog 79 2=some (74,2))∧(fldOff Try.prog 79 3=some 3)∧(fldTy Try.prog 79 3=some (75,3))∧(fldOff Try.prog 79 4=some 4)∧(fldTy Try.prog 79 4=some (76,4))∧(fldOff Try.prog 79 5=some 5)∧(fldTy Try.prog 79 5=some (77,5))∧(fldOff Try.prog 79 6=some 6)∧(fldTy Try.prog 79 6=some (3,6))∧(fldOff Try.prog 79 7=some 7)∧(fldTy Try.prog 79 7=some (3,7))∧(fldOff Try.prog 79 8=some 8)∧(fldTy Try.prog 79 8=some (3,8))) ∧
    ((tySz Try.prog 84=some 1)∧(tyRow Try.prog 84=some false)∧(ptTy Try.prog 84=some true)∧(tyZero Try.prog 84=some [Value.pointer none])) ∧
    ((tySz Try.prog 88=some 1)∧(tyRow Try.prog 88=some false)∧(scTy Try.prog 88=some 0)∧(tyZero Try.prog 88=some [Value.int IntKind.i64 0])∧(Try.prog.underlying 88=some (TypeDesc.int IntKind.i64))) ∧
    ((tySz Try.prog 95=some 1)∧(tyRow Try.prog 95=some false)∧(scTy Try.prog 95=some 0)∧(tyZero Try.prog 95=some [Value.int IntKind.u32 0])∧(Try.prog.underlying 95=some (TypeDesc.int IntKind.u32))) ∧
    ((tySz Try.prog 97=some 1)∧(tyRow Try.prog 97=some false)∧(scTy Try.prog 97=some 0)∧(tyZero Try.prog 97=some [Value.int IntKind.u64 0])∧(Try.prog.underlying 97=some (TypeDesc.int IntKind.u64))) ∧
    ((tySz Try.prog 100=some 1)∧(tyRow Try.prog 100=some false)∧(scTy Try.prog 100=some 0)∧(tyZero Try.prog 100=some [Value.int IntKind.u64 0])∧(Try.prog.underlying 100=some (TypeDesc.int IntKind.u64))) ∧
    ((tySz Try.prog 104=some 1)∧(tyRow Try.prog 104=some false)∧(ptTy Try.prog 104=some true)∧(tyZero Try.prog 104=some [Value.pointer none])) ∧
    ((tySz Try.prog 108=some 3)∧(tyRow Try.prog 108=some true)∧(tyZero Try.prog 108=some [Value.int IntKind.i64 0,Value.int IntKind.i64 0,Value.int IntKind.i64 0])∧(tyStruct Try.prog 108=some ([Value.int IntKind.i64 0,Value.int IntKind.i64 0,Value.int IntKind.i64 0],[(0,1),(1,1),(2,1)]))∧(eqTy Try.prog 108=some [(0,0),(1,0),(2,0)])∧(fldOff Try.prog 108 0=some 0)∧(fldTy Try.prog 108 0=some (3,0))∧(fldOff Try.prog 108 1=some 1)∧(fldTy Try.prog 108 1=some (3,1))∧(fldOff Try.prog 108 2=some 2)∧(fldTy Try.prog 108 2=some (3,2))) ∧
    ((tySz Try.prog 111=some 5)∧(tyRow Try.prog 111=some true)∧(tyZero Try.prog 111=some [Value.int IntKind.i64 0,Value.int IntKind.i64 0,Value.int IntKind.i64 0,Value.int IntKind.i64 0,Value.bool false])∧(tyStruct Try.prog 111=some ([Value.int IntKind.i64 0,Value.int IntKind.i64 0,Value.int IntKind.i64 0,Value.int IntKind.i64 0,Value.bool false],[(0,1),(1,1),(2,1),(3,1),(4,1)]))∧(eqTy Try.prog 111=some [(0,0),(1,0),(2,0),(3,0),(4,1)])∧(fldOff Try.prog 111 0=some 0)∧(fldTy Try.prog 111 0=some (3,0))∧(fldOff Try.prog 111 1=some 1)∧(fldTy Try.prog 111 1=some (3,1))∧(fldOff Try.prog 111 2=some 2)∧(fldTy Try.prog 111 2=some (3,2))∧(fldOff Try.prog 111 3=some 3)∧(fldTy Try.prog 111 3=some (3,3))∧(fldOff Try.prog 111 4=some 4)∧(fldTy Try.prog 111 4=some (4,4))) ∧
    ((tySz Try.prog 116=some 4)∧(tyRow Try.prog 116=some true)∧(tyZero Try.prog 116=some [Value.int IntKind.i64 0,Value.int IntKind.i64 0,Value.bool false,Value.int IntKind.i64 0])∧(tyStruct Try.prog 116=some ([Value.int IntKind.i64 0,Value.int IntKind.i64 0,Value.bool false,Value.int IntKind.i64 0],[(0,1),(1,1),(2,1),(3,1)]))∧(eqTy Try.prog 116=some [(0,0),(1,0),(2,1),(3,0)])∧(fldOff Try.prog 116 0=some 0)∧(fldTy Try.prog 116 0=some (3,0))∧(fldOff Try.prog 116 1=some 1)∧(fldTy Try.prog 116 1=some (3,1))∧(fldOff Try.prog 116 2=some 2)∧(fldTy Try.prog 116 2=some (4,2))∧(fldOff Try.prog 116 3=some 3)∧(fldTy Try.prog 116 3=some (3,3))) ∧
    ((tySz Try.prog 120=some 2)∧(tyRow Try.prog 120=some true)∧(tyZero Try.prog 120=some [Value.int IntKind.i64 0,Value.int IntKind.i64 0])∧(tyStruct Try.prog 120=some ([Value.int IntKind.i64 0,Value.int IntKind.i64 0],[(0,1),(1,1)]))∧(eqTy Try.prog 120=some [(0,0),(1,0)])∧(fldOff Try.prog 120 0=some 0)∧(fldTy Try.prog 120 0=some (3,0))∧(fldOff Try.prog 120 1=some 1)∧(fldTy Try.prog 120 1=some (3,1))) ∧
    ((tySz Try.prog 121=some 1)∧(tyRow Try.prog 121=some false)∧(mapTy Try.prog 121=some (3,136,Value.agg { toList := [Value.int IntKind.i64 0,Value.int IntKind.i64 0,Value.int IntKind.i64 0,Value.bool false] }))∧(tyZero Try.prog 121=some [Value.map none])∧(Try.prog.underlying 121=some (TypeDesc.map 3 136))) ∧
    ((tySz Try.prog 122=some 1)∧(tyRow Try.prog 122=some false)∧(mapTy Try.prog 122=some (120,139,Value.agg { toList := [Value.bool false,Value.int IntKind.i64 0] }))∧(tyZero Try.prog 122=some [Value.map none])∧(Try.prog.underlying 122=some (TypeDesc.map 120 139))) ∧
    ((tySz Try.prog 123=some 1)∧(tyRow Try.prog 123=some false)∧(mapTy Try.prog 123=some (120,4,Value.bool false))∧(tyZero Try.prog 123=some [Value.map none])∧(Try.prog.underlying 123=some (TypeDesc.map 120 4))) ∧
    ((tySz Try.prog 125=some 6)∧(tyRow Try.prog 125=some true)∧(tyZero Try.prog 125=some [Value.slice none 0 0,Value.int IntKind.i64 0,Value.int IntKind.i64 0,Value.int IntKind.i64 0,Value.int IntKind.i64 0,Value.int IntKind.i64 0])∧(tyStruct Try.prog 125=some ([Value.slice none 0 0,Value.int IntKind.i64 0,Value.int IntKind.i64 0,Value.int IntKind.i64 0,Value.int IntKind.i64 0,Value.int IntKind.i64 0],[(0,1),(1,1),(2,1),(3,1),(4,1),(5,1)]))∧(fldOff Try.prog 125 0=some 0)∧(fldTy Try.prog 125 0=some (35,0))∧(fldOff Try.prog 125 1=some 1)∧(fldTy Try.prog 125 1=some (3,1))∧(fldOff Try.prog 125 2=some 2)∧(fldTy Try.prog 125 2=some (3,2))∧(fldOff Try.prog 125 3=some 3)∧(fldTy Try.prog 125 3=some (3,3))∧(fldOff Try.prog 125 4=some 4)∧(fldTy Try.prog 125 4=some (3,4))∧(fldOff Try.prog 125 5=some 5)∧(fldTy Try.prog 125 5=some (3,5))) ∧
    ((tySz Try.prog 127=some 11)∧(tyRow Try.prog 127=some true)∧(tyZero Try.prog 127=some [Value.int IntKind.i64 0,Value.int IntKind.i64 0,Value.map none,Value.map none,Value.map none,Value.slice none 0 0,Value.int IntKind.i64 0,Value.int IntKind.i64 0,Value.int IntKind.i64 0,Value.int IntKind.i64 0,Value.int IntKind.i64 0])∧(tyStruct Try.prog 127=some ([Value.int IntKind.i64 0,Value.int IntKind.i64 0,Value.map none,Value.map none,Value.map none,Value.slice none 0 0,Value.int IntKind.i64 0,Value.int IntKind.i64 0,Value.int IntKind.i64 0,Value.int IntKind.i64 0,Value.int IntKind.i64 0],[(0,1),(1,1),(2,1),(3,1),(4,1),(5,6)]))∧(fldOff Try.prog 127 0=some 0)∧(fldTy Try.prog 127 0=some (3,0))∧(fldOff Try.prog 127 1=some 1)∧(fldTy Try.prog 127 1=some (3,1))∧(fldOff Try.prog 127 2=some 2)∧(fldTy Try.prog 127 2=some (121,2))∧(fldOff Try.prog 127 3=some 3)∧(fldTy Try.prog 127 3=some (122,3))∧(fldOff Try.prog 127 4=some 4)∧(fldTy Try.prog 127 4=some (123,4))∧(fldOff Try.prog 127 5=some 5)∧(fldTy Try.prog 127 5=some (125,5))) ∧
    ((tySz Try.prog 131=some 1)∧(tyRow Try.prog 131=some false)∧(elemSz Try.prog 131=some 1)∧(elemTyB Try.prog 131=some (9,1,16))∧(tyZero Try.prog 131=some [Value.slice none 0 0])∧(isSl Try.prog 131=true)∧(Try.prog.underlying 131=some (TypeDesc.slice 9))) ∧
    ((tySz Try.prog 132=some 7)∧(tyRow Try.prog 132=some true)∧(elemA Try.prog 132=some (3,1,7))∧(tyZero Try.prog 132=some [Value.int IntKind.i64 0,Value.int IntKind.i64 0,Value.int IntKind.i64 0,Value.int IntKind.i64 0,Value.int IntKind.i64 0,Value.int IntKind.i64 0,Value.int IntKind.i64 0])∧(tyArray Try.prog 132=some ([Value.int IntKind.i64 0,Value.int IntKind.i64 0,Value.int IntKind.i64 0,Value.int IntKind.i64 0,Value.int IntKind.i64 0,Value.int IntKind.i64 0,Value.int IntKind.i64 0],1,7))∧(tyStruct Try.prog 132=none)) ∧
    ((tySz Try.prog 133=some 1)∧(tyRow Try.prog 133=some false)∧(ptTy Try.prog 133=some true)∧(tyZero Try.prog 133=some [Value.pointer none])) ∧
    ((tySz Try.prog 136=some 4)∧(tyRow Try.prog 136=some true)∧(tyZero Try.prog 136=some [Value.int IntKind.i64 0,Value.int IntKind.i64 0,Value.int IntKind.i64 0,Value.bool false])∧(tyStruct Try.prog 136=some ([Value.int IntKind.i64 0,Value.int IntKind.i64 0,Value.int IntKind.i64 0,Value.bool false],[(0,1),(1,1),(2,1),(3,1)]))∧(eqTy Try.prog 136=some [(0,0),(1,0),(2,0),(3,1)])∧(fldOff Try.prog 136 0=some 0)∧(fldTy Try.prog 136 0=some (3,0))∧(fldOff Try.prog 136 1=some 1)∧(fldTy Try.prog 136 1=some (3,1))∧(fldOff Try.prog 136 2=some 2)∧(fldTy Try.prog 136 2=some (3,2))∧(fldOff Try.prog 136 3=some 3)∧(fldTy Try.prog 136 3=some (4,3))) ∧
    ((tySz Try.prog 139=some 2)∧(tyRow Try.prog 139=some true)∧(tyZero Try.prog 139=some [Value.bool false,Value.int IntKind.i64 0])∧(tyStruct Try.prog 139=some ([Value.bool false,Value.int IntKind.i64 0],[(0,1),(1,1)]))∧(eqTy Try.prog 139=some [(0,1),(1,0)])∧(fldOff Try.prog 139 0=some 0)∧(fldTy Try.prog 139 0=some (4,0))∧(fldOff Try.prog 139 1=some 1)∧(fldTy Try.prog 139 1=some (3,1))) :=
  ⟨ty_3,ty_4,ty_5,ty_9,ty_22,ty_24,ty_25,ty_31,ty_33,ty_35,ty_39,ty_41,ty_42,ty_44,ty_46,ty_47,ty_49,ty_58,ty_60,ty_65,ty_66,ty_67,ty_69,ty_73,ty_74,ty_75,ty_76,ty_77,ty_79,ty_84,ty_88,ty_95,ty_97,ty_100,ty_104,ty_108,ty_111,ty_116,ty_120,ty_121,ty_122,ty_123,ty_125,ty_127,ty_131,ty_132,ty_133,ty_136,ty_139⟩
end Go.Proofs.Ytnckehomadnhoaa
namespace Go.Proofs.Ytnckehomadnhoaa
open Go.RowKit Go.Sort
set_option linter.unusedSimpArgs false
set_option linter.unusedVariables false
structure Ev where
  g:Int
  kind:Int
  obj:Int
  off:Int
  k:Int
  n:Int
  fn:Int
  pc:Int
  st:Int
def evC (e:Ev):List PV := [.val (.int .i64 e.g),.val (.int .i64 e.kind),.val (.int .i64 e.obj),.val (.int .i64 e.off),.val (.int .i64 e.k),.val (.int .i64 e.n),.val (.int .i64 e.fn),.val (.int .i64 e.pc),.val (.int .i64 e.st)]
def evA (e:Ev):AV := .agg ((evC e).map .p)
def isKindB (k:Int):Bool:=decide (1≤k) && decide (k ≤ 20)
theorem isKind_ok (k:Int):PureC Try.prog 89 [.int k] (.bool (isKindB k)):=by
  refine PureC.of Try.func89 rfl 9 rfl (by decide) (by simp [AV.okB]) ?_
  repeat' (first|refine T.seqK fun K hK=>?_|refine T.block ?_|(refine T.reg (by kernel_rfl) fun K' hK'=>?_;simp only [startSt,frOf,List.map_cons,List.map_nil];(repeat' (first|(with_reducible refine WL.fin ?_;refine hK' _ ?_;clear hK' K')|((with_reducible refine WL.step fun K2 hK2=>?_);simp only [simprocAttr,implies_true,amz,tys];(repeat' (first|with_reducible (first|(refine hK2 _ ?_;clear hK2 K2)|refine And.intro ?_ ?_|intro hb) ))))))|refine T.skip ?_|refine T.exit ?_|refine T.condT rfl ?_|refine T.condF rfl ?_|refine T.cond rfl (fun hc=>?_) (fun hc=>?_)|refine T.ret ?_|simp only [ThenA,InBlock,reduceIte,Nat.reduceEqDiff]|((repeat ((fail_if_success (refine hK _ ?_));clear hK K));refine hK _ ?_;clear hK K))
  all_goals (refine FinA.ret (.inr rfl) Try.results89 ?_;simp only [ares,aresL,ares1,simprocAttr,implies_true,amz,tys,];first|(simp [isKindB, *];done)|(simp_all [isKindB];done)|(simp_all [isKindB];omega))
def numberedB (k:Int):Bool:=decide (15≤k) && decide (k ≤ 18)
theorem numbered_ok (k:Int):PureC Try.prog 90 [.int k] (.bool (numberedB k)):=by
  refine PureC.of Try.func90 rfl 9 rfl (by decide) (by simp [AV.okB]) ?_
  repeat' (first|refine T.seqK fun K hK=>?_|refine T.block ?_|(refine T.reg (by kernel_rfl) fun K' hK'=>?_;simp only [startSt,frOf,List.map_cons,List.map_nil];(repeat' (first|(with_reducible refine WL.fin ?_;refine hK' _ ?_;clear hK' K')|((with_reducible refine WL.step fun K2 hK2=>?_);simp only [simprocAttr,implies_true,amz,tys];(repeat' (first|with_reducible (first|(refine hK2 _ ?_;clear hK2 K2)|refine And.intro ?_ ?_|intro hb) ))))))|refine T.skip ?_|refine T.exit ?_|refine T.condT rfl ?_|refine T.condF rfl ?_|refine T.cond rfl (fun hc=>?_) (fun hc=>?_)|refine T.ret ?_|simp only [ThenA,InBlock,reduceIte,Nat.reduceEqDiff]|((repeat ((fail_if_success (refine hK _ ?_));clear hK K));refine hK _ ?_;clear hK K))
  all_goals (refine FinA.ret (.inr rfl) Try.results90 ?_;simp only [ares,aresL,ares1,simprocAttr,implies_true,amz,tys,];first|(simp [numberedB, *];done)|(simp_all [numberedB];done)|(simp_all [numberedB];omega))
def memoryB (k:Int):Bool:=k == 1 || k == 2
theorem memory_ok (k:Int):PureC Try.prog 49 [.int k] (.bool (memoryB k)):=by
  refine PureC.of Try.func49 rfl 9 rfl (by decide) (by simp [AV.okB]) ?_
  repeat' (first|refine T.seqK fun K hK=>?_|refine T.block ?_|(refine T.reg (by kernel_rfl) fun K' hK'=>?_;simp only [startSt,frOf,List.map_cons,List.map_nil];(repeat' (first|(with_reducible refine WL.fin ?_;refine hK' _ ?_;clear hK' K')|((with_reducible refine WL.step fun K2 hK2=>?_);simp only [simprocAttr,implies_true,amz,tys];(repeat' (first|with_reducible (first|(refine hK2 _ ?_;clear hK2 K2)|refine And.intro ?_ ?_|intro hb) ))))))|refine T.skip ?_|refine T.exit ?_|refine T.condT rfl ?_|refine T.condF rfl ?_|refine T.cond rfl (fun hc=>?_) (fun hc=>?_)|refine T.ret ?_|simp only [ThenA,InBlock,reduceIte,Nat.reduceEqDiff]|((repeat ((fail_if_success (refine hK _ ?_));clear hK K));refine hK _ ?_;clear hK K))
  all_goals (refine FinA.ret (.inr rfl) Try.results49 ?_;simp only [ares,aresL,ares1,simprocAttr,implies_true,amz,tys,];first|(simp [memoryB, *];done)|(simp_all [memoryB];done)|(simp_all [memoryB];omega))
def channelB (k:Int):Bool:=decide (15≤k) && decide (k ≤ 20)
theorem channelR_ok (k:Int):PureC Try.prog 64 [.int k] (.bool (channelB k)):=by
  refine PureC.of Try.func64 rfl 9 rfl (by decide) (by simp [AV.okB]) ?_
  repeat' (first|refine T.seqK fun K hK=>?_|refine T.block ?_|(refine T.reg (by kernel_rfl) fun K' hK'=>?_;simp only [startSt,frOf,List.map_cons,List.map_nil];(repeat' (first|(with_reducible refine WL.fin ?_;refine hK' _ ?_;clear hK' K')|((with_reducible refine WL.step fun K2 hK2=>?_);simp only [simprocAttr,implies_true,amz,tys];(repeat' (first|with_reducible (first|(refine hK2 _ ?_;clear hK2 K2)|refine And.intro ?_ ?_|intro hb) ))))))|refine T.skip ?_|refine T.exit ?_|refine T.condT rfl ?_|refine T.condF rfl ?_|refine T.cond rfl (fun hc=>?_) (fun hc=>?_)|refine T.ret ?_|simp only [ThenA,InBlock,reduceIte,Nat.reduceEqDiff]|((repeat ((fail_if_success (refine hK _ ?_));clear hK K));refine hK _ ?_;clear hK K))
  all_goals (refine FinA.ret (.inr rfl) Try.results64 ?_;simp only [ares,aresL,ares1,simprocAttr,implies_true,amz,tys,];first|(simp [channelB, *];done)|(simp_all [channelB];done)|(simp_all [channelB];omega))
def channelP (k:Int):Bool:=numberedB k || k == 19 || k == 20
theorem channelP_eq (k:Int):channelP k=channelB k:=by
  unfold channelP channelB numberedB
  rw [Bool.eq_iff_iff]
  simp
  omega
theorem channel_ok (k:Int):PureC Try.prog 85 [.int k] (.bool (channelB k)):=by
  rw [← channelP_eq]
  refine PureC.of Try.func85 rfl 13 rfl (by decide) (by simp [AV.okB]) ?_
  repeat' (first|refine T.seqK fun K hK=>?_|refine T.block ?_|(refine T.reg (by kernel_rfl) fun K' hK'=>?_;simp only [startSt,frOf,List.map_cons,List.map_nil];(repeat' (first|(with_reducible refine WL.fin ?_;refine hK' _ ?_;clear hK' K')|((with_reducible refine WL.step fun K2 hK2=>?_);simp only [simprocAttr,implies_true,amz,tys];(repeat' (first|with_reducible (first|(refine hK2 _ ?_;clear hK2 K2)|refine And.intro ?_ ?_|intro hb)|((first|(with_reducible apply callArmO)|(with_reducible apply callArm));case h=>exact CallV.plain (Ent.of Try.func90 (by kernel_rfl) rfl) (numbered_ok _) (by simp [AV.okB]))))))))|refine T.skip ?_|refine T.exit ?_|refine T.condT rfl ?_|refine T.condF rfl ?_|refine T.cond rfl (fun hc=>?_) (fun hc=>?_)|refine T.ret ?_|simp only [ThenA,InBlock,reduceIte,Nat.reduceEqDiff]|((repeat ((fail_if_success (refine hK _ ?_));clear hK K));refine hK _ ?_;clear hK K))
  all_goals (refine FinA.ret (.inr rfl) Try.results85 ?_;simp only [ares,aresL,ares1,simprocAttr,implies_true,amz,tys,];first|(simp [channelP, *];done)|(simp_all [channelP];done)|(simp_all [channelP];omega))
def conflictB (a b:Ev):Bool:=memoryB a.kind && memoryB b.kind && a.g != b.g && a.obj == b.obj && a.off == b.off && (a.kind == 2 || b.kind == 2)
def conflictP (a b:Ev):Bool:=memoryB a.kind && memoryB b.kind && a.g != b.g && a.obj == b.obj && a.off == b.off && (if a.kind < b.kind then b.kind else a.kind) == 2
set_option maxHeartbeats 4000000 in
set_option maxRecDepth 100000 in
theorem conflict_ok (a b:Ev):PureC Try.prog 38 [evA a,evA b] (.bool (conflictP a b)):=by
  simp only [evA,evC,List.map_cons,List.map_nil]
  refine PureC.of Try.func38 rfl 42 rfl (by decide) (by simp [AV.okB]) ?_
  repeat' (first|refine T.seqK fun K hK=>?_|refine T.block ?_|(refine T.reg (by kernel_rfl) fun K' hK'=>?_;simp only [startSt,frOf,List.map_cons,List.map_nil];(repeat' (first|(with_reducible refine WL.fin ?_;refine hK' _ ?_;clear hK' K')|((with_reducible refine WL.step fun K2 hK2=>?_);simp only [simprocAttr,implies_true,amz,tys];(repeat' (first|with_reducible (first|(refine hK2 _ ?_;clear hK2 K2)|refine And.intro ?_ ?_|intro hb)|((first|(with_reducible apply callArmO)|(with_reducible apply callArm));case h=>exact CallV.plain (Ent.of Try.func49 (by kernel_rfl) rfl) (memory_ok _) (by simp [AV.okB]))))))))|refine T.skip ?_|refine T.exit ?_|refine T.condT rfl ?_|refine T.condF rfl ?_|refine T.cond rfl (fun hc=>?_) (fun hc=>?_)|refine T.ret ?_|simp only [ThenA,InBlock,reduceIte,Nat.reduceEqDiff]|((repeat ((fail_if_success (refine hK _ ?_));clear hK K));refine hK _ ?_;clear hK K))
  all_goals (refine FinA.ret (.inr rfl) Try.results38 ?_;simp only [ares,aresL,ares1,simprocAttr,implies_true,amz,tys,];first|(simp [conflictP, *];done)|(simp_all [conflictP];done)|(simp_all [conflictP];omega))
end Go.Proofs.Ytnckehomadnhoaa
namespace Go.Proofs.Ytnckehomadnhoaa
open Go.RowKit Go.Sort
set_option linter.unusedSimpArgs false
set_option linter.unusedVariables false
structure Cn where
  obj:Int
  n:Int
  sent:Int
  recv:Int
  closed:Bool
structure Lk where
  obj:Int
  off:Int
  locked:Bool
  readers:Int
structure Wt where
  kind:Int
  g:Int
  not:Int
structure Rs where
  count:Int
  gor:Int
  chans:List Cn
  locks:List Lk
  done:List (Int × Int)
  next:List Wt
  obj:Int
  k:Int
  n:Int
abbrev pI (x:Int):PV := .val (.int .i64 x)
def cnC (c:Cn):List PV := [.val (.int .i64 c.obj),.val (.int .i64 c.n),.val (.int .i64 c.sent),.val (.int .i64 c.recv),.val (.bool c.closed)]
def lkC (c:Lk):List PV := [.val (.int .i64 c.obj),.val (.int .i64 c.off),.val (.bool c.locked),.val (.int .i64 c.readers)]
def wtC (c:Wt):List PV := [.val (.int .i64 c.kind),.val (.int .i64 c.g),.val (.int .i64 c.not)]
def loC (c:Int × Int):List PV := [.val (.int .i64 c.1),.val (.int .i64 c.2)]
def rsC (s:Rs):List PV := [.val (.int .i64 s.count),.val (.int .i64 s.gor),.seq 5 (s.chans.map cnC),.seq 4 (s.locks.map lkC),.seq 2 (s.done.map loC),.seq 3 (s.next.map wtC),.val (.int .i64 s.obj),.val (.int .i64 s.k),.val (.int .i64 s.n)]
def rsA (s:Rs):AV := .agg ((rsC s).map .p)
def cnA (c:Cn):AV := .agg ((cnC c).map .p)
def lkA (c:Lk):AV := .agg ((lkC c).map .p)
def chanB (o n:Int):List Cn→Cn
  | []=>⟨o,n,0,0,false⟩
  | c :: r=>if c.obj == o then c else chanB o n r
theorem drop_at {α:Type} {l:List α} {k:Nat} {x : α} (h:l[k]? = some x):l.drop k=x :: l.drop (k + 1):=by
  obtain ⟨h1,h2⟩:=List.getElem?_eq_some_iff.1 h
  rw [List.drop_eq_getElem_cons h1,h2]
theorem drop_end {α:Type} {l:List α} {k:Nat} (h : ¬ k < l.length):l.drop k = []:=List.drop_eq_nil_of_le (by omega)
theorem at_lt {α:Type} {l:List α} {k:Nat} (h:k < l.length) : ∃ x,l[k]? = some x:=⟨_,List.getElem?_eq_getElem h⟩
set_option maxHeartbeats 4000000 in
set_option maxRecDepth 100000 in
theorem chan_ok (s:Rs) (o n:Int) (hl:s.chans.length ≤ 1000000):PureC Try.prog 77 [rsA s,.int o,.int n] (cnA (chanB o n s.chans)):=by
  simp only [rsA,rsC,List.map_cons,List.map_nil,cnA,cnC]
  refine PureC.of Try.func77 rfl 31 rfl (by decide) (by simp [AV.okB]) ?_
  repeat' (first|refine T.seqK fun K hK=>?_|refine T.block ?_|(refine T.reg (by kernel_rfl) fun K' hK'=>?_;simp only [startSt,frOf,List.map_cons,List.map_nil];(repeat' (first|(with_reducible refine WL.fin ?_;refine hK' _ ?_;clear hK' K')|((with_reducible refine WL.step fun K2 hK2=>?_);simp only [simprocAttr,implies_true,amz,tys];(repeat' (first|with_reducible (first|(refine hK2 _ ?_;clear hK2 K2)|refine And.intro ?_ ?_|intro hb) ))))))|refine T.skip ?_|refine T.exit ?_|refine T.condT rfl ?_|refine T.condF rfl ?_|refine T.cond rfl (fun hc=>?_) (fun hc=>?_)|refine T.ret ?_|simp only [ThenA,InBlock,reduceIte,Nat.reduceEqDiff]|((repeat ((fail_if_success (refine hK _ ?_));clear hK K));refine hK _ ?_;clear hK K))
  refine T.loopK (fun k:Nat=>⟨[(0,rsA s),(1,.int o),(2,.int n),(3,.ptr 0 0),(6,.ptr 1 0),(7,.int k)],[(1,.box 111 ((cnC ⟨0,0,0,0,false⟩).map .p)),(0,.box 79 ((rsC s).map .p))],31,2⟩) (fun k=>k≤s.chans.length∧chanB o n s.chans=chanB o n (s.chans.drop k)) (fun k=>s.chans.length - k) 0 ⟨Nat.zero_le _,rfl⟩ (by refine Weak.of' rfl ?_;simp only [wks,reduceIte,Nat.reduceEqDiff,ASt.okB,AV.okB,Nat.reduceLT,implies_true,Int.natCast_zero,rsA,rsC,cnC,List.map_cons,List.map_nil]) ?_
  · rintro k ⟨hk,hn⟩ KL hKL
    simp only [rsA,rsC,List.map_cons,List.map_nil,cnC]
    by_cases hlt:k < s.chans.length
    · obtain ⟨x,hx⟩:=at_lt hlt
      have hd:decide ((k:Int) < (s.chans.length:Int))=true:=by simpa using hlt
      rw [drop_at hx,chanB] at hn
      repeat' (first|refine T.seqK fun K hK=>?_|refine T.block ?_|(refine T.reg (by kernel_rfl) fun K' hK'=>?_;simp only [startSt,frOf,List.map_cons,List.map_nil];(repeat' (first|(with_reducible refine WL.fin ?_;refine hK' _ ?_;clear hK' K')|((with_reducible refine WL.step fun K2 hK2=>?_);simp only [simprocAttr,implies_true,amz,tys,hx,hd,cnC];(repeat' (first|with_reducible (first|(refine hK2 _ ?_;clear hK2 K2)|refine And.intro ?_ ?_|intro hb) ))))))|refine T.skip ?_|refine T.exit ?_|refine T.condT rfl ?_|refine T.condF rfl ?_|refine T.cond rfl (fun hc=>?_) (fun hc=>?_)|refine T.ret ?_|simp only [ThenA,InBlock,reduceIte,Nat.reduceEqDiff]|((repeat ((fail_if_success (refine hK _ ?_));clear hK K));refine hK _ ?_;clear hK K))
      · rw [hc] at hn
        refine FinA.ret (.inr rfl) Try.results77 ?_;simp only [ares,aresL,ares1,simprocAttr,implies_true,amz,tys,]
        simp [hn]
      · rw [hc] at hn
        refine hKL _ (k + 1) (by refine Weak.of' rfl ?_;simp only [wks,reduceIte,Nat.reduceEqDiff,ASt.okB,AV.okB,Nat.reduceLT,implies_true,wrap_succ (show k < 1152921504606846976 by omega),rsA,rsC,cnC,List.map_cons,List.map_nil]) ⟨by omega,?_⟩ (by omega)
        simpa using hn
    · have hd:decide ((k:Int) < (s.chans.length:Int))=false:=by simpa using hlt
      rw [drop_end hlt] at hn
      repeat' (first|refine T.seqK fun K hK=>?_|refine T.block ?_|(refine T.reg (by kernel_rfl) fun K' hK'=>?_;simp only [startSt,frOf,List.map_cons,List.map_nil];(repeat' (first|(with_reducible refine WL.fin ?_;refine hK' _ ?_;clear hK' K')|((with_reducible refine WL.step fun K2 hK2=>?_);simp only [simprocAttr,implies_true,amz,tys,hd,cnC];(repeat' (first|with_reducible (first|(refine hK2 _ ?_;clear hK2 K2)|refine And.intro ?_ ?_|intro hb) ))))))|refine T.skip ?_|refine T.exit ?_|refine T.condT rfl ?_|refine T.condF rfl ?_|refine T.cond rfl (fun hc=>?_) (fun hc=>?_)|refine T.ret ?_|simp only [ThenA,InBlock,reduceIte,Nat.reduceEqDiff]|((repeat ((fail_if_success (refine hK _ ?_));clear hK K));refine hK _ ?_;clear hK K))
      refine FinA.ret (.inr rfl) Try.results77 ?_;simp only [ares,aresL,ares1,simprocAttr,implies_true,amz,tys,]
      simp [hn,chanB]
end Go.Proofs.Ytnckehomadnhoaa
namespace Go.Proofs.Ytnckehomadnhoaa
open Go.RowKit Go.Sort
set_option linter.unusedSimpArgs false
set_option linter.unusedVariables false
def setC (s:Rs) (c:Cn):Rs := { s with chans:=s.chans.filter (fun x=>x.obj != c.obj) ++ [c] }
theorem filt_yes {α:Type} {l:List α} {k:Nat} {x : α} {p : α→Bool} (h:l[k]? = some x) (hp:p x=true):(l.take (k + 1)).filter p=(l.take k).filter p ++ [x]:=by
  rw [List.take_add_one,h,List.filter_append];simp [hp]
theorem filt_no {α:Type} {l:List α} {k:Nat} {x : α} {p : α→Bool} (h:l[k]? = some x) (hp:p x=false):(l.take (k + 1)).filter p=(l.take k).filter p:=by
  rw [List.take_add_one,h,List.filter_append];simp [hp]
theorem filt_len {α:Type} (l:List α) (k:Nat) (p : α→Bool):((l.take k).filter p).length≤l.length:=Nat.le_trans (List.length_filter_le _ _) (by simp;omega)
set_option maxHeartbeats 4000000 in
set_option maxRecDepth 100000 in
theorem setC_ok (s:Rs) (c:Cn) (hl:s.chans.length ≤ 1000000):PureC Try.prog 79 [rsA s,cnA c] (rsA (setC s c)):=by
  simp only [rsA,rsC,List.map_cons,List.map_nil,cnA,cnC]
  refine PureC.of Try.func79 rfl 37 rfl (by decide) (by simp [AV.okB]) ?_
  repeat' (first|refine T.seqK fun K hK=>?_|refine T.block ?_|(refine T.reg (by kernel_rfl) fun K' hK'=>?_;simp only [startSt,frOf,List.map_cons,List.map_nil];(repeat' (first|(with_reducible refine WL.fin ?_;refine hK' _ ?_;clear hK' K')|((with_reducible refine WL.step fun K2 hK2=>?_);simp only [simprocAttr,implies_true,amz,tys];(repeat' (first|with_reducible (first|(refine hK2 _ ?_;clear hK2 K2)|refine And.intro ?_ ?_|intro hb) ))))))|refine T.skip ?_|refine T.exit ?_|refine T.condT rfl ?_|refine T.condF rfl ?_|refine T.cond rfl (fun hc=>?_) (fun hc=>?_)|refine T.ret ?_|simp only [ThenA,InBlock,reduceIte,Nat.reduceEqDiff]|((repeat ((fail_if_success (refine hK _ ?_));clear hK K));refine hK _ ?_;clear hK K))
  refine T.loopK (fun k:Nat=>⟨[(0,rsA s),(1,cnA c),(2,.ptr 0 0),(3,.ptr 1 0),(4,.ptr 2 0),(5,.own 3),(6,.int k)],[(3,.row 111 5 (((s.chans.take k).filter fun x=>x.obj != c.obj).map cnC)),(2,.box 79 [.int 0,.int 0,.p (.val (.slice none 0 0)),.p (.val (.slice none 0 0)),.p (.val (.slice none 0 0)),.p (.val (.slice none 0 0)),.int 0,.int 0,.int 0]),(1,.box 111 ((cnC c).map .p)),(0,.box 79 ((rsC s).map .p))],37,4⟩) (fun k=>k≤s.chans.length) (fun k=>s.chans.length - k) 0 (Nat.zero_le _) ((Weak.newrow _ 5 111 5 (show 5 < 37 by decide) rfl).trans (by refine Weak.of' rfl ?_;simp only [wks,reduceIte,Nat.reduceEqDiff,ASt.okB,AV.okB,Nat.reduceLT,implies_true,ASt.add,put_some,Int.natCast_zero,rsA,rsC,cnC,cnA,List.map_cons,List.map_nil,List.take_zero,List.filter_nil])) ?_
  · rintro k hk KL hKL
    simp only [rsA,rsC,List.map_cons,List.map_nil,cnC,cnA]
    by_cases hlt:k < s.chans.length
    · obtain ⟨x,hx⟩:=at_lt hlt
      have hd:decide ((k:Int) < (s.chans.length:Int))=true:=by simpa using hlt
      have hln:=filt_len s.chans k (fun x=>x.obj != c.obj)
      have hmx:((s.chans.take k).filter fun x=>x.obj != c.obj).length + 1≤maxLen:=by unfold maxLen;omega
      have hmy:(((s.chans.take k).filter fun x=>x.obj != c.obj).length + 1) * 40 ≤ 140737488355328:=by omega
      repeat' (first|refine T.seqK fun K hK=>?_|refine T.block ?_|(refine T.reg (by kernel_rfl) fun K' hK'=>?_;simp only [startSt,frOf,List.map_cons,List.map_nil];(repeat' (first|(with_reducible refine WL.fin ?_;refine hK' _ ?_;clear hK' K')|((with_reducible refine WL.step fun K2 hK2=>?_);simp only [simprocAttr,implies_true,amz,tys,hx,hd,cnC];(repeat' (first|with_reducible (first|(refine hK2 _ ?_;clear hK2 K2)|refine And.intro ?_ ?_|intro hb) ))))))|refine T.skip ?_|refine T.exit ?_|refine T.condT rfl ?_|refine T.condF rfl ?_|refine T.cond rfl (fun hc=>?_) (fun hc=>?_)|refine T.ret ?_|simp only [ThenA,InBlock,reduceIte,Nat.reduceEqDiff]|((repeat ((fail_if_success (refine hK _ ?_));clear hK K));refine hK _ ?_;clear hK K))
      refine T.drw 9 (by kernel_rfl) (by kernel_rfl) fun K' hK'=>?_;simp only [List.map_cons,List.map_nil];(repeat' (first|(with_reducible refine WL.fin ?_;refine hK' _ ?_;clear hK' K')|(with_reducible refine WD.fin ?_)|((with_reducible first|refine WL.step fun K2 hK2=>?_|refine WD.step fun K2 hK2=>?_);simp only [simprocAttr,implies_true,amz,tys,hx,hd,cnC];(repeat' (first|with_reducible (first|(refine hK2 _ ?_;clear hK2 K2)|refine And.intro ?_ ?_|intro hb) )))));all_goals ((try simp only [ThenA,InBlock,reduceIte,Nat.reduceEqDiff]);(try ((repeat ((fail_if_success (refine hK _ ?_));clear hK K));refine hK _ ?_;clear hK K)))
      repeat' (first|refine T.seqK fun K hK=>?_|refine T.block ?_|(refine T.reg (by kernel_rfl) fun K' hK'=>?_;simp only [startSt,frOf,List.map_cons,List.map_nil];(repeat' (first|(with_reducible refine WL.fin ?_;refine hK' _ ?_;clear hK' K')|((with_reducible refine WL.step fun K2 hK2=>?_);simp only [simprocAttr,implies_true,amz,tys,hx,hd,cnC,hmx,hmy,ml_1];(repeat' (first|with_reducible (first|(refine hK2 _ ?_;clear hK2 K2)|refine And.intro ?_ ?_|intro hb) ))))))|refine T.skip ?_|refine T.exit ?_|refine T.condT rfl ?_|refine T.condF rfl ?_|refine T.cond rfl (fun hc=>?_) (fun hc=>?_)|refine T.ret ?_|simp only [ThenA,InBlock,reduceIte,Nat.reduceEqDiff]|((repeat ((fail_if_success (refine hK _ ?_));clear hK K));refine hK _ ?_;clear hK K))
      · have e:((s.chans.take (k + 1)).filter fun x=>x.obj != c.obj).map cnC=((s.chans.take k).filter fun x=>x.obj != c.obj).map cnC ++ [cnC x]:=by rw [filt_yes hx hc];simp
        refine hKL _ (k + 1) (by refine Weak.of' rfl ?_;simp only [wks,reduceIte,Nat.reduceEqDiff,ASt.okB,AV.okB,Nat.reduceLT,implies_true,wrap_succ (show k < 1152921504606846976 by omega),rsA,rsC,cnC,cnA,List.map_cons,List.map_nil,e]) (by omega) (by omega)
      · have e:((s.chans.take (k + 1)).filter fun x=>x.obj != c.obj).map cnC=((s.chans.take k).filter fun x=>x.obj != c.obj).map cnC:=by rw [filt_no hx hc]
        refine hKL _ (k + 1) (by refine Weak.of' rfl ?_;simp only [wks,reduceIte,Nat.reduceEqDiff,ASt.okB,AV.okB,Nat.reduceLT,implies_true,wrap_succ (show k < 1152921504606846976 by omega),rsA,rsC,cnC,cnA,List.map_cons,List.map_nil,e]) (by omega) (by omega)
    · have hd:decide ((k:Int) < (s.chans.length:Int))=false:=by simpa using hlt
      have hln:=filt_len s.chans k (fun x=>x.obj != c.obj)
      have hmx:((s.chans.take k).filter fun x=>x.obj != c.obj).length + 1≤maxLen:=by unfold maxLen;omega
      have hmy:(((s.chans.take k).filter fun x=>x.obj != c.obj).length + 1) * 40 ≤ 140737488355328:=by omega
      repeat' (first|refine T.seqK fun K hK=>?_|refine T.block ?_|(refine T.reg (by kernel_rfl) fun K' hK'=>?_;simp only [startSt,frOf,List.map_cons,List.map_nil];(repeat' (first|(with_reducible refine WL.fin ?_;refine hK' _ ?_;clear hK' K')|((with_reducible refine WL.step fun K2 hK2=>?_);simp only [simprocAttr,implies_true,amz,tys,hd,cnC,hmx,hmy,ml_1];(repeat' (first|with_reducible (first|(refine hK2 _ ?_;clear hK2 K2)|refine And.intro ?_ ?_|intro hb) ))))))|refine T.skip ?_|refine T.exit ?_|refine T.condT rfl ?_|refine T.condF rfl ?_|refine T.cond rfl (fun hc=>?_) (fun hc=>?_)|refine T.ret ?_|simp only [ThenA,InBlock,reduceIte,Nat.reduceEqDiff]|((repeat ((fail_if_success (refine hK _ ?_));clear hK K));refine hK _ ?_;clear hK K))
      refine FinA.retW (.inr rfl) Try.results79 (Weak.frz _ 3) ?_;simp only [ares,aresL,ares1,ASt.frz,ASt.subst,AO.sub_box,AO.sub_row,AO.sub_map,AO.sub_raw,AO.sub_lrec,AV.sub_p,AV.sub_elt,AV.sub_ptr,AV.sub_rptr,AV.sub_own,AV.sub_junk,AV.sub_cap0,AV.sub_agg,AV.sub_fn,AV.sub_tup,List.filter_cons,List.filter_nil,bne_self_eq_false,Nat.reduceBneDiff,Nat.reduceEqDiff,Bool.false_eq_true,simprocAttr,implies_true,amz,tys]
      rw [List.take_of_length_le (by omega)]
      simp [setC,cnC]
end Go.Proofs.Ytnckehomadnhoaa
namespace Go.Proofs.Ytnckehomadnhoaa
open Go.RowKit Go.Sort
set_option linter.unusedSimpArgs false
set_option linter.unusedVariables false
def lockB (o f:Int):List Lk→Lk
  | []=>⟨o,f,false,0⟩
  | c :: r=>if c.obj == o && c.off == f then c else lockB o f r
set_option maxHeartbeats 4000000 in
set_option maxRecDepth 100000 in
theorem lock_ok (s:Rs) (o f:Int) (hl:s.locks.length ≤ 1000000):PureC Try.prog 80 [rsA s,.int o,.int f] (lkA (lockB o f s.locks)):=by
  simp only [rsA,rsC,List.map_cons,List.map_nil,lkA,lkC]
  refine PureC.of Try.func80 rfl 41 rfl (by decide) (by simp [AV.okB]) ?_
  repeat' (first|refine T.seqK fun K hK=>?_|refine T.block ?_|(refine T.reg (by kernel_rfl) fun K' hK'=>?_;simp only [startSt,frOf,List.map_cons,List.map_nil];(repeat' (first|(with_reducible refine WL.fin ?_;refine hK' _ ?_;clear hK' K')|((with_reducible refine WL.step fun K2 hK2=>?_);simp only [simprocAttr,implies_true,amz,tys];(repeat' (first|with_reducible (first|(refine hK2 _ ?_;clear hK2 K2)|refine And.intro ?_ ?_|intro hb) ))))))|refine T.skip ?_|refine T.exit ?_|refine T.condT rfl ?_|refine T.condF rfl ?_|refine T.cond rfl (fun hc=>?_) (fun hc=>?_)|refine T.ret ?_|simp only [ThenA,InBlock,reduceIte,Nat.reduceEqDiff]|((repeat ((fail_if_success (refine hK _ ?_));clear hK K));refine hK _ ?_;clear hK K))
  refine T.loopK (fun k:Nat=>⟨[(0,rsA s),(1,.int o),(2,.int f),(3,.ptr 0 0),(6,.ptr 1 0),(7,.int k)],[(1,.box 116 ((lkC ⟨0,0,false,0⟩).map .p)),(0,.box 79 ((rsC s).map .p))],41,2⟩) (fun k=>k≤s.locks.length∧lockB o f s.locks=lockB o f (s.locks.drop k)) (fun k=>s.locks.length - k) 0 ⟨Nat.zero_le _,rfl⟩ (by refine Weak.of' rfl ?_;simp only [wks,reduceIte,Nat.reduceEqDiff,ASt.okB,AV.okB,Nat.reduceLT,implies_true,Int.natCast_zero,rsA,rsC,lkC,List.map_cons,List.map_nil]) ?_
  · rintro k ⟨hk,hn⟩ KL hKL
    simp only [rsA,rsC,List.map_cons,List.map_nil,lkC]
    by_cases hlt:k < s.locks.length
    · obtain ⟨x,hx⟩:=at_lt hlt
      have hd:decide ((k:Int) < (s.locks.length:Int))=true:=by simpa using hlt
      rw [drop_at hx,lockB] at hn
      have hcont:lockB o f s.locks=lockB o f (s.locks.drop (k + 1)) → ∀ s',Weak s' _→KL s':=fun h s' hw=>hKL s' (k + 1) hw ⟨by omega,h⟩ (by omega)
      repeat' (first|refine T.seqK fun K hK=>?_|refine T.block ?_|(refine T.reg (by kernel_rfl) fun K' hK'=>?_;simp only [startSt,frOf,List.map_cons,List.map_nil];(repeat' (first|(with_reducible refine WL.fin ?_;refine hK' _ ?_;clear hK' K')|((with_reducible refine WL.step fun K2 hK2=>?_);simp only [simprocAttr,implies_true,amz,tys,hx,hd,lkC];(repeat' (first|with_reducible (first|(refine hK2 _ ?_;clear hK2 K2)|refine And.intro ?_ ?_|intro hb) ))))))|refine T.skip ?_|refine T.exit ?_|refine T.condT rfl ?_|refine T.condF rfl ?_|refine T.cond rfl (fun hc=>?_) (fun hc=>?_)|refine T.ret ?_|simp only [ThenA,InBlock,reduceIte,Nat.reduceEqDiff]|((repeat ((fail_if_success (refine hK _ ?_));clear hK K));refine hK _ ?_;clear hK K))
      all_goals first
        | (refine FinA.ret (.inr rfl) Try.results80 ?_;simp only [ares,aresL,ares1,simprocAttr,implies_true,amz,tys,];simp_all;done)
        | (refine hcont (by simp_all) _ (by refine Weak.of' rfl ?_;simp only [wks,reduceIte,Nat.reduceEqDiff,ASt.okB,AV.okB,Nat.reduceLT,implies_true,wrap_succ (show k < 1152921504606846976 by omega),rsA,rsC,lkC,List.map_cons,List.map_nil]))
    · have hd:decide ((k:Int) < (s.locks.length:Int))=false:=by simpa using hlt
      rw [drop_end hlt] at hn
      repeat' (first|refine T.seqK fun K hK=>?_|refine T.block ?_|(refine T.reg (by kernel_rfl) fun K' hK'=>?_;simp only [startSt,frOf,List.map_cons,List.map_nil];(repeat' (first|(with_reducible refine WL.fin ?_;refine hK' _ ?_;clear hK' K')|((with_reducible refine WL.step fun K2 hK2=>?_);simp only [simprocAttr,implies_true,amz,tys,hd,lkC];(repeat' (first|with_reducible (first|(refine hK2 _ ?_;clear hK2 K2)|refine And.intro ?_ ?_|intro hb) ))))))|refine T.skip ?_|refine T.exit ?_|refine T.condT rfl ?_|refine T.condF rfl ?_|refine T.cond rfl (fun hc=>?_) (fun hc=>?_)|refine T.ret ?_|simp only [ThenA,InBlock,reduceIte,Nat.reduceEqDiff]|((repeat ((fail_if_success (refine hK _ ?_));clear hK K));refine hK _ ?_;clear hK K))
      refine FinA.ret (.inr rfl) Try.results80 ?_;simp only [ares,aresL,ares1,simprocAttr,implies_true,amz,tys,]
      simp [hn,lockB]
def doneB (s:Rs) (o f:Int):Bool:=s.done.any fun c=>c.1 == o && c.2 == f
set_option maxHeartbeats 4000000 in
set_option maxRecDepth 100000 in
theorem done_ok (s:Rs) (o f:Int) (hl:s.done.length ≤ 1000000):PureC Try.prog 82 [rsA s,.int o,.int f] (.bool (doneB s o f)):=by
  simp only [rsA,rsC,List.map_cons,List.map_nil]
  refine PureC.of Try.func82 rfl 33 rfl (by decide) (by simp [AV.okB]) ?_
  repeat' (first|refine T.seqK fun K hK=>?_|refine T.block ?_|(refine T.reg (by kernel_rfl) fun K' hK'=>?_;simp only [startSt,frOf,List.map_cons,List.map_nil];(repeat' (first|(with_reducible refine WL.fin ?_;refine hK' _ ?_;clear hK' K')|((with_reducible refine WL.step fun K2 hK2=>?_);simp only [simprocAttr,implies_true,amz,tys];(repeat' (first|with_reducible (first|(refine hK2 _ ?_;clear hK2 K2)|refine And.intro ?_ ?_|intro hb) ))))))|refine T.skip ?_|refine T.exit ?_|refine T.condT rfl ?_|refine T.condF rfl ?_|refine T.cond rfl (fun hc=>?_) (fun hc=>?_)|refine T.ret ?_|simp only [ThenA,InBlock,reduceIte,Nat.reduceEqDiff]|((repeat ((fail_if_success (refine hK _ ?_));clear hK K));refine hK _ ?_;clear hK K))
  refine T.loopK (fun k:Nat=>⟨[(0,rsA s),(1,.int o),(2,.int f),(3,.ptr 0 0),(6,.bool false),(7,.int k)],[(0,.box 79 ((rsC s).map .p))],33,1⟩) (fun k=>k≤s.done.length∧doneB s o f=(s.done.drop k).any fun c=>c.1 == o && c.2 == f) (fun k=>s.done.length - k) 0 ⟨Nat.zero_le _,rfl⟩ (by refine Weak.of' rfl ?_;simp only [wks,reduceIte,Nat.reduceEqDiff,ASt.okB,AV.okB,Nat.reduceLT,implies_true,Int.natCast_zero,rsA,rsC,List.map_cons,List.map_nil]) ?_
  · rintro k ⟨hk,hn⟩ KL hKL
    simp only [rsA,rsC,List.map_cons,List.map_nil]
    by_cases hlt:k < s.done.length
    · obtain ⟨x,hx⟩:=at_lt hlt
      have hd:decide ((k:Int) < (s.done.length:Int))=true:=by simpa using hlt
      rw [drop_at hx,List.any_cons] at hn
      have hcont:(doneB s o f=(s.done.drop (k + 1)).any fun c=>c.1 == o && c.2 == f) → ∀ s',Weak s' _→KL s':=fun h s' hw=>hKL s' (k + 1) hw ⟨by omega,h⟩ (by omega)
      repeat' (first|refine T.seqK fun K hK=>?_|refine T.block ?_|(refine T.reg (by kernel_rfl) fun K' hK'=>?_;simp only [startSt,frOf,List.map_cons,List.map_nil];(repeat' (first|(with_reducible refine WL.fin ?_;refine hK' _ ?_;clear hK' K')|((with_reducible refine WL.step fun K2 hK2=>?_);simp only [simprocAttr,implies_true,amz,tys,hx,hd,loC];(repeat' (first|with_reducible (first|(refine hK2 _ ?_;clear hK2 K2)|refine And.intro ?_ ?_|intro hb) ))))))|refine T.skip ?_|refine T.exit ?_|refine T.condT rfl ?_|refine T.condF rfl ?_|refine T.cond rfl (fun hc=>?_) (fun hc=>?_)|refine T.ret ?_|simp only [ThenA,InBlock,reduceIte,Nat.reduceEqDiff]|((repeat ((fail_if_success (refine hK _ ?_));clear hK K));refine hK _ ?_;clear hK K))
      all_goals first
        | (refine FinA.ret (.inr rfl) Try.results82 ?_;simp only [ares,aresL,ares1,simprocAttr,implies_true,amz,tys,];simp_all;done)
        | (refine hcont (by simp_all) _ (by refine Weak.of' rfl ?_;simp only [wks,reduceIte,Nat.reduceEqDiff,ASt.okB,AV.okB,Nat.reduceLT,implies_true,wrap_succ (show k < 1152921504606846976 by omega),rsA,rsC,List.map_cons,List.map_nil]))
    · have hd:decide ((k:Int) < (s.done.length:Int))=false:=by simpa using hlt
      rw [drop_end hlt] at hn
      repeat' (first|refine T.seqK fun K hK=>?_|refine T.block ?_|(refine T.reg (by kernel_rfl) fun K' hK'=>?_;simp only [startSt,frOf,List.map_cons,List.map_nil];(repeat' (first|(with_reducible refine WL.fin ?_;refine hK' _ ?_;clear hK' K')|((with_reducible refine WL.step fun K2 hK2=>?_);simp only [simprocAttr,implies_true,amz,tys,hd];(repeat' (first|with_reducible (first|(refine hK2 _ ?_;clear hK2 K2)|refine And.intro ?_ ?_|intro hb) ))))))|refine T.skip ?_|refine T.exit ?_|refine T.condT rfl ?_|refine T.condF rfl ?_|refine T.cond rfl (fun hc=>?_) (fun hc=>?_)|refine T.ret ?_|simp only [ThenA,InBlock,reduceIte,Nat.reduceEqDiff]|((repeat ((fail_if_success (refine hK _ ?_));clear hK K));refine hK _ ?_;clear hK K))
      refine FinA.ret (.inr rfl) Try.results82 ?_;simp only [ares,aresL,ares1,simprocAttr,implies_true,amz,tys,]
      simp [hn]
def keepL (c:Lk) (x:Lk):Bool:=x.obj != c.obj || x.off != c.off
def setL (s:Rs) (c:Lk):Rs := { s with locks:=s.locks.filter (keepL c) ++ [c] }
set_option maxHeartbeats 4000000 in
set_option maxRecDepth 100000 in
theorem setL_ok (s:Rs) (c:Lk) (hl:s.locks.length ≤ 1000000):PureC Try.prog 81 [rsA s,lkA c] (rsA (setL s c)):=by
  simp only [rsA,rsC,List.map_cons,List.map_nil,lkA,lkC]
  refine PureC.of Try.func81 rfl 48 rfl (by decide) (by simp [AV.okB]) ?_
  repeat' (first|refine T.seqK fun K hK=>?_|refine T.block ?_|(refine T.reg (by kernel_rfl) fun K' hK'=>?_;simp only [startSt,frOf,List.map_cons,List.map_nil];(repeat' (first|(with_reducible refine WL.fin ?_;refine hK' _ ?_;clear hK' K')|((with_reducible refine WL.step fun K2 hK2=>?_);simp only [simprocAttr,implies_true,amz,tys];(repeat' (first|with_reducible (first|(refine hK2 _ ?_;clear hK2 K2)|refine And.intro ?_ ?_|intro hb) ))))))|refine T.skip ?_|refine T.exit ?_|refine T.condT rfl ?_|refine T.condF rfl ?_|refine T.cond rfl (fun hc=>?_) (fun hc=>?_)|refine T.ret ?_|simp only [ThenA,InBlock,reduceIte,Nat.reduceEqDiff]|((repeat ((fail_if_success (refine hK _ ?_));clear hK K));refine hK _ ?_;clear hK K))
  refine T.loopK (fun k:Nat=>⟨[(0,rsA s),(1,lkA c),(2,.ptr 0 0),(3,.ptr 1 0),(4,.ptr 2 0),(5,.own 3),(6,.int k)],[(3,.row 116 4 (((s.locks.take k).filter (keepL c)).map lkC)),(2,.box 79 [.int 0,.int 0,.p (.val (.slice none 0 0)),.p (.val (.slice none 0 0)),.p (.val (.slice none 0 0)),.p (.val (.slice none 0 0)),.int 0,.int 0,.int 0]),(1,.box 116 ((lkC c).map .p)),(0,.box 79 ((rsC s).map .p))],48,4⟩) (fun k=>k≤s.locks.length) (fun k=>s.locks.length - k) 0 (Nat.zero_le _) ((Weak.newrow _ 5 116 4 (show 5 < 48 by decide) rfl).trans (by refine Weak.of' rfl ?_;simp only [wks,reduceIte,Nat.reduceEqDiff,ASt.okB,AV.okB,Nat.reduceLT,implies_true,ASt.add,put_some,Int.natCast_zero,rsA,rsC,lkC,lkA,List.map_cons,List.map_nil,List.take_zero,List.filter_nil])) ?_
  · rintro k hk KL hKL
    simp only [rsA,rsC,List.map_cons,List.map_nil,lkC,lkA]
    have hln:=filt_len s.locks k (keepL c)
    have hmx:((s.locks.take k).filter (keepL c)).length + 1≤maxLen:=by unfold maxLen;omega
    have hmy:(((s.locks.take k).filter (keepL c)).length + 1) * 32 ≤ 140737488355328:=by omega
    by_cases hlt:k < s.locks.length
    · obtain ⟨x,hx⟩:=at_lt hlt
      have hd:decide ((k:Int) < (s.locks.length:Int))=true:=by simpa using hlt
      have hyes:keepL c x=true → ∀ s',Weak s' _→KL s':=fun h s' hw=>hKL s' (k + 1) (by rw [filt_yes hx h,List.map_append];exact hw) (by omega) (by omega)
      have hno:keepL c x=false → ∀ s',Weak s' _→KL s':=fun h s' hw=>hKL s' (k + 1) (by rw [filt_no hx h];exact hw) (by omega) (by omega)
      repeat' (first|refine T.seqK fun K hK=>?_|refine T.block ?_|(refine T.reg (by kernel_rfl) fun K' hK'=>?_;simp only [startSt,frOf,List.map_cons,List.map_nil];(repeat' (first|(with_reducible refine WL.fin ?_;refine hK' _ ?_;clear hK' K')|((with_reducible refine WL.step fun K2 hK2=>?_);simp only [simprocAttr,implies_true,amz,tys,hx,hd,lkC];(repeat' (first|with_reducible (first|(refine hK2 _ ?_;clear hK2 K2)|refine And.intro ?_ ?_|intro hb) ))))))|refine T.skip ?_|refine T.exit ?_|refine T.condT rfl ?_|refine T.condF rfl ?_|refine T.cond rfl (fun hc=>?_) (fun hc=>?_)|refine T.ret ?_|simp only [ThenA,InBlock,reduceIte,Nat.reduceEqDiff]|((repeat ((fail_if_success (refine hK _ ?_));clear hK K));refine hK _ ?_;clear hK K))
      refine T.drw 20 (by kernel_rfl) (by kernel_rfl) fun K' hK'=>?_;simp only [List.map_cons,List.map_nil];(repeat' (first|(with_reducible refine WL.fin ?_;refine hK' _ ?_;clear hK' K')|(with_reducible refine WD.fin ?_)|((with_reducible first|refine WL.step fun K2 hK2=>?_|refine WD.step fun K2 hK2=>?_);simp only [simprocAttr,implies_true,amz,tys,hx,hd,lkC];(repeat' (first|with_reducible (first|(refine hK2 _ ?_;clear hK2 K2)|refine And.intro ?_ ?_|intro hb) )))));all_goals ((try simp only [ThenA,InBlock,reduceIte,Nat.reduceEqDiff]);(try ((repeat ((fail_if_success (refine hK _ ?_));clear hK K));refine hK _ ?_;clear hK K)))
      all_goals repeat' (first|refine T.seqK fun K hK=>?_|refine T.block ?_|(refine T.reg (by kernel_rfl) fun K' hK'=>?_;simp only [startSt,frOf,List.map_cons,List.map_nil];(repeat' (first|(with_reducible refine WL.fin ?_;refine hK' _ ?_;clear hK' K')|((with_reducible refine WL.step fun K2 hK2=>?_);simp only [simprocAttr,implies_true,amz,tys,hx,hd,lkC,hmx,hmy,ml_1];(repeat' (first|with_reducible (first|(refine hK2 _ ?_;clear hK2 K2)|refine And.intro ?_ ?_|intro hb) ))))))|refine T.skip ?_|refine T.exit ?_|refine T.condT rfl ?_|refine T.condF rfl ?_|refine T.cond rfl (fun hc=>?_) (fun hc=>?_)|refine T.ret ?_|simp only [ThenA,InBlock,reduceIte,Nat.reduceEqDiff]|((repeat ((fail_if_success (refine hK _ ?_));clear hK K));refine hK _ ?_;clear hK K))
      all_goals first
        | (refine hyes ?_ _ ?_;(focus (simp [keepL, *];done));refine Weak.of' rfl ?_;simp only [wks,reduceIte,Nat.reduceEqDiff,ASt.okB,AV.okB,Nat.reduceLT,implies_true,wrap_succ (show k < 1152921504606846976 by omega),rsA,rsC,lkC,lkA,List.map_cons,List.map_nil];done)
        | (refine hno ?_ _ ?_;(focus (simp [keepL, *];done));refine Weak.of' rfl ?_;simp only [wks,reduceIte,Nat.reduceEqDiff,ASt.okB,AV.okB,Nat.reduceLT,implies_true,wrap_succ (show k < 1152921504606846976 by omega),rsA,rsC,lkC,lkA,List.map_cons,List.map_nil];done)
    · have hd:decide ((k:Int) < (s.locks.length:Int))=false:=by simpa using hlt
      repeat' (first|refine T.seqK fun K hK=>?_|refine T.block ?_|(refine T.reg (by kernel_rfl) fun K' hK'=>?_;simp only [startSt,frOf,List.map_cons,List.map_nil];(repeat' (first|(with_reducible refine WL.fin ?_;refine hK' _ ?_;clear hK' K')|((with_reducible refine WL.step fun K2 hK2=>?_);simp only [simprocAttr,implies_true,amz,tys,hd,lkC,hmx,hmy,ml_1];(repeat' (first|with_reducible (first|(refine hK2 _ ?_;clear hK2 K2)|refine And.intro ?_ ?_|intro hb) ))))))|refine T.skip ?_|refine T.exit ?_|refine T.condT rfl ?_|refine T.condF rfl ?_|refine T.cond rfl (fun hc=>?_) (fun hc=>?_)|refine T.ret ?_|simp only [ThenA,InBlock,reduceIte,Nat.reduceEqDiff]|((repeat ((fail_if_success (refine hK _ ?_));clear hK K));refine hK _ ?_;clear hK K))
      refine FinA.retW (.inr rfl) Try.results81 (Weak.frz _ 3) ?_;simp only [ares,aresL,ares1,ASt.frz,ASt.subst,AO.sub_box,AO.sub_row,AO.sub_map,AO.sub_raw,AO.sub_lrec,AV.sub_p,AV.sub_elt,AV.sub_ptr,AV.sub_rptr,AV.sub_own,AV.sub_junk,AV.sub_cap0,AV.sub_agg,AV.sub_fn,AV.sub_tup,List.filter_cons,List.filter_nil,bne_self_eq_false,Nat.reduceBneDiff,Nat.reduceEqDiff,Bool.false_eq_true,simprocAttr,implies_true,amz,tys]
      rw [List.take_of_length_le (by omega)]
      simp [setL,lkC]
end Go.Proofs.Ytnckehomadnhoaa
namespace Go.Proofs.Ytnckehomadnhoaa
open Go.RowKit Go.Sort
set_option linter.unusedSimpArgs false
set_option linter.unusedVariables false
def rs0:Rs:=⟨0,1,[],[],[],[],0,0,0⟩
def sent1 (c:Cn):Cn := { c with sent:=IntKind.i64.wrap (c.sent + 1) }
def recv1 (c:Cn):Cn := { c with recv:=IntKind.i64.wrap (c.recv + 1) }
def countedB (s:Rs) (e:Ev):Rs:=if e.kind == 15 then setC s (sent1 (chanB e.obj e.n s.chans)) else if e.kind == 17 then setC s (recv1 (chanB e.obj e.n s.chans)) else s
set_option maxHeartbeats 4000000 in
set_option maxRecDepth 100000 in
theorem counted_ok (s:Rs) (e:Ev) (hl:s.chans.length ≤ 1000000):PureC Try.prog 76 [rsA s,evA e] (rsA (countedB s e)):=by
  simp only [rsA,rsC,List.map_cons,List.map_nil,evA,evC]
  refine PureC.of Try.func76 rfl 30 rfl (by decide) (by simp [AV.okB]) ?_
  repeat' (first|refine T.seqK fun K hK=>?_|refine T.block ?_|(refine T.reg (by kernel_rfl) fun K' hK'=>?_;simp only [startSt,frOf,List.map_cons,List.map_nil];(repeat' (first|(with_reducible refine WL.fin ?_;refine hK' _ ?_;clear hK' K')|((with_reducible refine WL.step fun K2 hK2=>?_);simp only [simprocAttr,implies_true,amz,tys,cnA,cnC,rsA,rsC];(repeat' (first|with_reducible (first|(refine hK2 _ ?_;clear hK2 K2)|refine And.intro ?_ ?_|intro hb)|((first|(with_reducible apply callArmO)|(with_reducible apply callArm));case h=>exact CallV.plain (Ent.of Try.func77 (by kernel_rfl) rfl) (chan_ok s e.obj e.n hl) (by simp [AV.okB]))|((first|(with_reducible apply callArmO)|(with_reducible apply callArm));case h=>exact CallV.plain (Ent.of Try.func79 (by kernel_rfl) rfl) (setC_ok s (sent1 (chanB e.obj e.n s.chans)) hl) (by simp [AV.okB]))|((first|(with_reducible apply callArmO)|(with_reducible apply callArm));case h=>exact CallV.plain (Ent.of Try.func79 (by kernel_rfl) rfl) (setC_ok s (recv1 (chanB e.obj e.n s.chans)) hl) (by simp [AV.okB]))))))))|refine T.skip ?_|refine T.exit ?_|refine T.condT rfl ?_|refine T.condF rfl ?_|refine T.cond rfl (fun hc=>?_) (fun hc=>?_)|refine T.ret ?_|simp only [ThenA,InBlock,reduceIte,Nat.reduceEqDiff]|((repeat ((fail_if_success (refine hK _ ?_));clear hK K));refine hK _ ?_;clear hK K))
  all_goals (refine FinA.ret (.inr rfl) Try.results76 ?_;simp only [ares,aresL,ares1,simprocAttr,implies_true,amz,tys,];simp [countedB, *])
def openB (s:Rs) (e:Ev) (nx:List Wt):Rs := { s with next:=nx,obj:=e.obj,k:=e.k,n:=e.n }
def beginB (s:Rs) (e:Ev) (nx:List Wt):Rs:=countedB (openB s e nx) e
set_option maxHeartbeats 4000000 in
set_option maxRecDepth 100000 in
theorem begin_ok (s:Rs) (e:Ev) (nx:List Wt) (hl:s.chans.length ≤ 1000000):PureC Try.prog 78 [rsA s,evA e,.p (.seq 3 (nx.map wtC))] (.tup [rsA (beginB s e nx),.bool true]):=by
  simp only [rsA,rsC,List.map_cons,List.map_nil,evA,evC]
  refine PureC.of Try.func78 rfl 22 rfl (by decide) (by simp [AV.okB]) ?_
  repeat' (first|refine T.seqK fun K hK=>?_|refine T.block ?_|(refine T.reg (by kernel_rfl) fun K' hK'=>?_;simp only [startSt,frOf,List.map_cons,List.map_nil];(repeat' (first|(with_reducible refine WL.fin ?_;refine hK' _ ?_;clear hK' K')|((with_reducible refine WL.step fun K2 hK2=>?_);simp only [simprocAttr,implies_true,amz,tys];(repeat' (first|with_reducible (first|(refine hK2 _ ?_;clear hK2 K2)|refine And.intro ?_ ?_|intro hb) ))))))|refine T.skip ?_|refine T.exit ?_|refine T.condT rfl ?_|refine T.condF rfl ?_|refine T.cond rfl (fun hc=>?_) (fun hc=>?_)|refine T.ret ?_|simp only [ThenA,InBlock,reduceIte,Nat.reduceEqDiff]|((repeat ((fail_if_success (refine hK _ ?_));clear hK K));refine hK _ ?_;clear hK K))
  refine T.comm [some (0,0),some (0,1),some (0,1),some (0,2),some (0,2),some (0,3),some (0,3),some (0,0),none,some (1,1),none,some (2,2),none,some (3,3),none] (by kernel_rfl) (by kernel_rfl) fun K' hK'=>?_;simp only [List.map_cons,List.map_nil,List.zip_cons_cons,List.zip_nil_left];(repeat' (first|(with_reducible refine WC.fin ?_;refine hK' _ ?_;clear hK' K')|((first|(with_reducible refine WC.stepV fun K2 hK2=>?_)|(with_reducible refine WC.stepW fun K2 hK2=>?_));simp only [simprocAttr,implies_true,amz,WCg,WCv,WOw,allP,dav,Chk,List.filter_cons,List.filter_nil,bne_self_eq_false,Nat.reduceBneDiff,Bool.false_eq_true,tys];(repeat' (first|(with_reducible refine hK2 _ _ ?_;clear hK2 K2)|with_reducible (first|(refine hK2 _ ?_;clear hK2 K2)|refine And.intro ?_ ?_|intro hb)|(with_reducible rfl)|((with_reducible show @Eq ASt _ _);rfl) )))));all_goals ((try simp only [ThenA,InBlock,reduceIte,Nat.reduceEqDiff]);(try ((repeat ((fail_if_success (refine hK _ ?_));clear hK K));refine hK _ ?_;clear hK K)))
  repeat' (first|refine T.seqK fun K hK=>?_|refine T.block ?_|(refine T.reg (by kernel_rfl) fun K' hK'=>?_;simp only [startSt,frOf,List.map_cons,List.map_nil];(repeat' (first|(with_reducible refine WL.fin ?_;refine hK' _ ?_;clear hK' K')|((with_reducible refine WL.step fun K2 hK2=>?_);simp only [simprocAttr,implies_true,amz,tys,rsA,rsC];(repeat' (first|with_reducible (first|(refine hK2 _ ?_;clear hK2 K2)|refine And.intro ?_ ?_|intro hb)|((first|(with_reducible apply callArmO)|(with_reducible apply callArm));case h=>exact CallV.plain (Ent.of Try.func76 (by kernel_rfl) rfl) (counted_ok (openB s e nx) e hl) (by simp [AV.okB]))))))))|refine T.skip ?_|refine T.exit ?_|refine T.condT rfl ?_|refine T.condF rfl ?_|refine T.cond rfl (fun hc=>?_) (fun hc=>?_)|refine T.ret ?_|simp only [ThenA,InBlock,reduceIte,Nat.reduceEqDiff]|((repeat ((fail_if_success (refine hK _ ?_));clear hK K));refine hK _ ?_;clear hK K))
  all_goals (refine FinA.ret (.inr rfl) Try.results78 ?_;simp only [ares,aresL,ares1,simprocAttr,implies_true,amz,tys,];simp [beginB, *])
end Go.Proofs.Ytnckehomadnhoaa
namespace Go.Proofs.Ytnckehomadnhoaa
open Go.RowKit Go.Sort
set_option linter.unusedSimpArgs false
set_option linter.unusedVariables false
def inKind (k:Int):Bool := !(decide (k < 1) || decide (20 < k))
def nameL:List (List PV) := [[.val (.string ⟨#[]⟩)],[.val (.string ⟨#[114,101,97,100]⟩)],[.val (.string ⟨#[119,114,105,116,101]⟩)],[.val (.string ⟨#[97,116,111,109,105,99,45,114,101,97,100]⟩)],[.val (.string ⟨#[97,116,111,109,105,99,45,119,114,105,116,101]⟩)],[.val (.string ⟨#[97,116,111,109,105,99,45,98,111,116,104]⟩)],[.val (.string ⟨#[108,111,99,107]⟩)],[.val (.string ⟨#[117,110,108,111,99,107]⟩)],[.val (.string ⟨#[114,108,111,99,107]⟩)],[.val (.string ⟨#[114,117,110,108,111,99,107]⟩)],[.val (.string ⟨#[100,111,110,101]⟩)],[.val (.string ⟨#[119,97,105,116]⟩)],[.val (.string ⟨#[111,110,99,101,45,101,110,100]⟩)],[.val (.string ⟨#[111,110,99,101,45,115,101,101,110]⟩)],[.val (.string ⟨#[103,111]⟩)],[.val (.string ⟨#[115,101,110,100,45,115,116,97,114,116]⟩)],[.val (.string ⟨#[115,101,110,100,45,101,110,100]⟩)],[.val (.string ⟨#[114,101,99,118,45,115,116,97,114,116]⟩)],[.val (.string ⟨#[114,101,99,118,45,101,110,100]⟩)],[.val (.string ⟨#[99,108,111,115,101]⟩)],[.val (.string ⟨#[114,101,99,118,45,99,108,111,115,101,100]⟩)]]
def nameB (k:Int):ByteArray:=if inKind k=true then (match nameL[k.toNat]? with|some [.val (.string b)]=>b|_=>⟨#[]⟩) else ⟨#[]⟩
set_option maxHeartbeats 8000000 in
set_option maxRecDepth 100000 in
theorem name_ok (k:Int):PureC Try.prog 75 [.int k] (.p (.val (.string (nameB k)))):=by
  refine PureC.of Try.func75 rfl 15 rfl (by decide) (by simp [AV.okB]) ?_
  by_cases hk:inKind k=true
  · have h1:decide (k < 1)=false:=by simp_all [inKind]
    have h2:decide (20 < k)=false:=by simp_all [inKind]
    obtain ⟨n,rfl⟩ : ∃ n:Nat,k=n:=⟨k.toNat,by simp at h1;omega⟩
    have hn:n < 21:=by simp at h2;omega
    have hx : ∃ b,nameL[n]? = some [.val (.string b)]∧nameB n=b:=by
      unfold nameB
      rw [hk]
      revert hn
      clear h1 h2 hk
      intro hn
      rcases n with _|_|_|_|_|_|_|_|_|_|_|_|_|_|_|_|_|_|_|_|_|n <;> first|exact ⟨_,rfl,rfl⟩|omega
    obtain ⟨b,hb1,hb2⟩:=hx
    rw [hb2]
    unfold nameL at hb1
    repeat' (first|refine T.seqK fun K hK=>?_|refine T.block ?_|(refine T.reg (by kernel_rfl) fun K' hK'=>?_;simp only [startSt,frOf,List.map_cons,List.map_nil];(repeat' (first|(with_reducible refine WL.fin ?_;refine hK' _ ?_;clear hK' K')|((with_reducible refine WL.step fun K2 hK2=>?_);simp only [simprocAttr,implies_true,amz,tys,ml_21,h1,h2,hb1,Nat.reduceDiv];(repeat' (first|with_reducible (first|(refine hK2 _ ?_;clear hK2 K2)|refine And.intro ?_ ?_|intro hb) ))))))|refine T.skip ?_|refine T.exit ?_|refine T.condT rfl ?_|refine T.condF rfl ?_|refine T.cond rfl (fun hc=>?_) (fun hc=>?_)|refine T.ret ?_|simp only [ThenA,InBlock,reduceIte,Nat.reduceEqDiff]|((repeat ((fail_if_success (refine hK _ ?_));clear hK K));refine hK _ ?_;clear hK K))
    all_goals (refine FinA.ret (.inr rfl) Try.results75 ?_;simp only [ares,aresL,ares1,simprocAttr,implies_true,amz,tys,])
  · have hd:(decide (k < 1) || decide (20 < k))=true:=by simp [inKind] at hk;simp;omega
    have hn:nameB k=⟨#[]⟩:=by simp [nameB,hk]
    rw [hn]
    repeat' (first|refine T.seqK fun K hK=>?_|refine T.block ?_|(refine T.reg (by kernel_rfl) fun K' hK'=>?_;simp only [startSt,frOf,List.map_cons,List.map_nil];(repeat' (first|(with_reducible refine WL.fin ?_;refine hK' _ ?_;clear hK' K')|((with_reducible refine WL.step fun K2 hK2=>?_);simp only [simprocAttr,implies_true,amz,tys,ml_21,Nat.reduceDiv];(repeat' (first|with_reducible (first|(refine hK2 _ ?_;clear hK2 K2)|refine And.intro ?_ ?_|intro hb) ))))))|refine T.skip ?_|refine T.exit ?_|refine T.condT rfl ?_|refine T.condF rfl ?_|refine T.cond rfl (fun hc=>?_) (fun hc=>?_)|refine T.ret ?_|simp only [ThenA,InBlock,reduceIte,Nat.reduceEqDiff]|((repeat ((fail_if_success (refine hK _ ?_));clear hK K));refine hK _ ?_;clear hK K))
    all_goals first
      | ((refine FinA.ret (.inr rfl) Try.results75 ?_;simp only [ares,aresL,ares1,simprocAttr,implies_true,amz,tys,]);done)
      | (exfalso;simp_all;done)
theorem name_empty (k:Int):((nameB k).toList == (ByteArray.mk #[]).toList) = !inKind k:=by
  by_cases hk:inKind k=true
  · have h1:decide (k < 1)=false:=by simp_all [inKind]
    have h2:decide (20 < k)=false:=by simp_all [inKind]
    obtain ⟨n,rfl⟩ : ∃ n:Nat,k=n:=⟨k.toNat,by simp at h1;omega⟩
    have hn:n < 21:=by simp at h2;omega
    have h0 : 1≤n:=by simp at h1;omega
    rw [hk]
    unfold nameB
    rw [hk]
    clear h1 h2 hk
    rcases n with _|_|_|_|_|_|_|_|_|_|_|_|_|_|_|_|_|_|_|_|_|n <;> first|(exfalso;omega)|(rw [ByteArray.toList_eq,ByteArray.toList_eq];rfl)
  · have hn:nameB k=⟨#[]⟩:=by simp [nameB,hk]
    rw [hn]
    simp [hk]
def fldsB (e:Ev):List Int := [e.obj,e.off,e.k,e.n,e.fn,e.pc,e.st]
def okF (x:Int):Bool := !(decide (x < 0) || decide (2147483647 < x))
def kindB (e:Ev):Bool :=
  if (e.kind == 14)=true then e.obj == 0 && e.off == 0 && e.n == 0 && decide (0 < e.k) && decide (e.k < 8)
  else if (e.kind == 15 || e.kind == 16 || e.kind == 17 || e.kind == 18)=true then e.off == 0 && decide (e.n ≤ 64)
  else if (e.kind == 19 || e.kind == 20)=true then e.off == 0 && e.k == 0 && decide (e.n ≤ 64)
  else e.k == 0 && e.n == 0
def begsB (e:Ev):Bool := !(decide (e.g < 0) || decide (8≤e.g) || !inKind e.kind)
def validB (e:Ev):Bool:=begsB e && ((fldsB e).all okF && kindB e)
set_option maxHeartbeats 8000000 in
set_option maxRecDepth 100000 in
theorem validR_ok (e:Ev):PureC Try.prog 62 [evA e] (.bool (validB e)):=by
  simp only [evA,evC,List.map_cons,List.map_nil]
  refine PureC.of Try.func62 rfl 116 rfl (by decide) (by simp [AV.okB]) ?_
  by_cases hh:begsB e=true
  · have h1:decide (e.g < 0)=false:=by simp_all [begsB]
    have h2:decide (8≤e.g)=false:=by simp_all [begsB]
    have h3:inKind e.kind=true:=by simp_all [begsB]
    repeat' (first|refine T.seqK fun K hK=>?_|refine T.block ?_|(refine T.reg (by kernel_rfl) fun K' hK'=>?_;simp only [startSt,frOf,List.map_cons,List.map_nil];(repeat' (first|(with_reducible refine WL.fin ?_;refine hK' _ ?_;clear hK' K')|((with_reducible refine WL.step fun K2 hK2=>?_);simp only [simprocAttr,implies_true,amz,tys,ml_7,h1,h2,h3,name_empty,Nat.reduceDiv];(repeat' (first|with_reducible (first|(refine hK2 _ ?_;clear hK2 K2)|refine And.intro ?_ ?_|intro hb)|((first|(with_reducible apply callArmO)|(with_reducible apply callArm));case h=>exact CallV.plain (Ent.of Try.func75 (by kernel_rfl) rfl) (name_ok _) (by simp [AV.okB]))))))))|refine T.skip ?_|refine T.exit ?_|refine T.condT rfl ?_|refine T.condF rfl ?_|refine T.cond rfl (fun hc=>?_) (fun hc=>?_)|refine T.ret ?_|simp only [ThenA,InBlock,reduceIte,Nat.reduceEqDiff]|((repeat ((fail_if_success (refine hK _ ?_));clear hK K));refine hK _ ?_;clear hK K))
    refine T.loopK (fun k:Nat=>⟨[(0,evA e),(1,.ptr 0 0),(2,.bool false),(3,.p (.seq 1 ((fldsB e).map fun x => [pI x]))),(4,.int k)],[(0,.box 44 ((evC e).map .p))],116,1⟩) (fun k=>k ≤ 7∧(fldsB e).all okF=((fldsB e).drop k).all okF) (fun k => 7 - k) 0 ⟨Nat.zero_le _,rfl⟩ (by refine Weak.of' rfl ?_;simp only [wks,reduceIte,Nat.reduceEqDiff,ASt.okB,AV.okB,Nat.reduceLT,implies_true,Int.natCast_zero,evA,evC,fldsB,pI,List.map_cons,List.map_nil]) ?_
    rintro k ⟨hk,hn⟩ KL hKL
    simp only [evA,evC,List.map_cons,List.map_nil]
    have hlen:(fldsB e).length=7:=rfl
    by_cases hlt:k < (fldsB e).length
    · obtain ⟨x,hx⟩:=at_lt hlt
      have hd:decide ((k:Int) < ((fldsB e).length:Int))=true:=by simpa using hlt
      rw [drop_at hx,List.all_cons] at hn
      have hcont:okF x=true → ∀ s',Weak s' _→KL s':=fun h s' hw=>hKL s' (k + 1) hw ⟨by omega,by rw [hn,h];rfl⟩ (by omega)
      have hbad:okF x=false→validB e=false:=fun h=>by simp [validB,hn,h]
      repeat' (first|refine T.seqK fun K hK=>?_|refine T.block ?_|(refine T.reg (by kernel_rfl) fun K' hK'=>?_;simp only [startSt,frOf,List.map_cons,List.map_nil];(repeat' (first|(with_reducible refine WL.fin ?_;refine hK' _ ?_;clear hK' K')|((with_reducible refine WL.step fun K2 hK2=>?_);simp only [simprocAttr,implies_true,amz,tys,hx,hd];(repeat' (first|with_reducible (first|(refine hK2 _ ?_;clear hK2 K2)|refine And.intro ?_ ?_|intro hb) ))))))|refine T.skip ?_|refine T.exit ?_|refine T.condT rfl ?_|refine T.condF rfl ?_|refine T.cond rfl (fun hc=>?_) (fun hc=>?_)|refine T.ret ?_|simp only [ThenA,InBlock,reduceIte,Nat.reduceEqDiff]|((repeat ((fail_if_success (refine hK _ ?_));clear hK K));refine hK _ ?_;clear hK K))
      all_goals first
        | ((refine FinA.ret (.inr rfl) Try.results62 ?_;simp only [ares,aresL,ares1,simprocAttr,implies_true,amz,tys,]);rw [hbad];(focus (simp [okF, *];done)))
        | (refine hcont ?_ _ ?_;(focus (simp_all [okF];done));refine Weak.of' rfl ?_;simp only [wks,reduceIte,Nat.reduceEqDiff,ASt.okB,AV.okB,Nat.reduceLT,implies_true,wrap_succ (show k < 1152921504606846976 by omega),evA,evC,pI,List.map_cons,List.map_nil];done)
    · have hd:decide ((k:Int) < ((fldsB e).length:Int))=false:=by simpa using hlt
      rw [drop_end hlt,List.all_nil] at hn
      have hv:validB e=kindB e:=by simp [validB,hh,hn]
      rw [hv]
      repeat' (first|refine T.seqK fun K hK=>?_|refine T.block ?_|(refine T.reg (by kernel_rfl) fun K' hK'=>?_;simp only [startSt,frOf,List.map_cons,List.map_nil];(repeat' (first|(with_reducible refine WL.fin ?_;refine hK' _ ?_;clear hK' K')|((with_reducible refine WL.step fun K2 hK2=>?_);simp only [simprocAttr,implies_true,amz,tys,hd];(repeat' (first|with_reducible (first|(refine hK2 _ ?_;clear hK2 K2)|refine And.intro ?_ ?_|intro hb) ))))))|refine T.skip ?_|refine T.exit ?_|refine T.condT rfl ?_|refine T.condF rfl ?_|refine T.cond rfl (fun hc=>?_) (fun hc=>?_)|refine T.ret ?_|simp only [ThenA,InBlock,reduceIte,Nat.reduceEqDiff]|((repeat ((fail_if_success (refine hK _ ?_));clear hK K));refine hK _ ?_;clear hK K))
      all_goals first
        | ((refine FinA.ret (.inr rfl) Try.results62 ?_;simp only [ares,aresL,ares1,simprocAttr,implies_true,amz,tys,]);simp [kindB, *];done)
        | (exfalso;simp_all;done)
  · have hh' : begsB e=false:=by simpa using hh
    have hv:validB e=false:=by simp [validB,hh']
    rw [hv]
    repeat' (first|refine T.seqK fun K hK=>?_|refine T.block ?_|(refine T.reg (by kernel_rfl) fun K' hK'=>?_;simp only [startSt,frOf,List.map_cons,List.map_nil];(repeat' (first|(with_reducible refine WL.fin ?_;refine hK' _ ?_;clear hK' K')|((with_reducible refine WL.step fun K2 hK2=>?_);simp only [simprocAttr,implies_true,amz,tys,name_empty];(repeat' (first|with_reducible (first|(refine hK2 _ ?_;clear hK2 K2)|refine And.intro ?_ ?_|intro hb)|((first|(with_reducible apply callArmO)|(with_reducible apply callArm));case h=>exact CallV.plain (Ent.of Try.func75 (by kernel_rfl) rfl) (name_ok _) (by simp [AV.okB]))))))))|refine T.skip ?_|refine T.exit ?_|refine T.condT rfl ?_|refine T.condF rfl ?_|refine T.cond rfl (fun hc=>?_) (fun hc=>?_)|refine T.ret ?_|simp only [ThenA,InBlock,reduceIte,Nat.reduceEqDiff]|((repeat ((fail_if_success (refine hK _ ?_));clear hK K));refine hK _ ?_;clear hK K))
    all_goals first
      | ((refine FinA.ret (.inr rfl) Try.results62 ?_;simp only [ares,aresL,ares1,simprocAttr,implies_true,amz,tys,]);done)
      | (exfalso;simp_all [begsB];done)
end Go.Proofs.Ytnckehomadnhoaa
namespace Go.Proofs.Ytnckehomadnhoaa
open Go.RowKit Go.Sort
set_option linter.unusedSimpArgs false
set_option linter.unusedVariables false
def transB (s:Rs) (e:Ev):Rs × Bool :=
  if ((chanB e.obj e.n s.chans).n != e.n)=true then (s,false)
  else if (e.kind == 15)=true then
    if (e.k != (chanB e.obj e.n s.chans).sent || (chanB e.obj e.n s.chans).closed)=true then (s,false)
    else if (decide (0 < (chanB e.obj e.n s.chans).n) && decide (IntKind.i64.wrap ((chanB e.obj e.n s.chans).sent - (chanB e.obj e.n s.chans).recv) < (chanB e.obj e.n s.chans).n))=true then (beginB s e [⟨16,e.g,0⟩],true)
    else if ((chanB e.obj e.n s.chans).n == 0 && decide (1 < s.gor))=true then (beginB s e [⟨17,-1,e.g⟩,⟨18,-1,0⟩,⟨16,e.g,0⟩],true)
    else (s,false)
  else if (e.kind == 17)=true then
    if (e.k != (chanB e.obj e.n s.chans).recv)=true then (s,false)
    else if decide ((chanB e.obj e.n s.chans).recv < (chanB e.obj e.n s.chans).sent)=true then (beginB s e [⟨18,e.g,0⟩],true)
    else if (!(chanB e.obj e.n s.chans).closed && decide (1 < s.gor))=true then (beginB s e [⟨15,-1,e.g⟩,⟨18,e.g,0⟩,⟨16,-1,0⟩],true)
    else (s,false)
  else if (e.kind == 19)=true then
    if (!(chanB e.obj e.n s.chans).closed)=true then (setC s { chanB e.obj e.n s.chans with closed:=true },true) else (s,false)
  else if (e.kind == 20)=true then (s,(chanB e.obj e.n s.chans).closed && (chanB e.obj e.n s.chans).sent == (chanB e.obj e.n s.chans).recv)
  else (s,false)
set_option maxHeartbeats 8000000 in
set_option maxRecDepth 100000 in
theorem trans_ok (s:Rs) (e:Ev) (hl:s.chans.length ≤ 1000000):PureC Try.prog 65 [rsA s,evA e] (.tup [rsA (transB s e).1,.bool (transB s e).2]):=by
  simp only [rsA,rsC,List.map_cons,List.map_nil,evA,evC]
  refine PureC.of Try.func65 rfl 141 rfl (by decide) (by simp [AV.okB]) ?_
  repeat' (first|refine T.seqK fun K hK=>?_|refine T.block ?_|(refine T.reg (by kernel_rfl) fun K' hK'=>?_;simp only [startSt,frOf,List.map_cons,List.map_nil];(repeat' (first|(with_reducible refine WL.fin ?_;refine hK' _ ?_;clear hK' K')|((with_reducible refine WL.step fun K2 hK2=>?_);simp only [simprocAttr,implies_true,amz,tys,cnA,cnC,rsA,rsC,ml_1,ml_3];(repeat' (first|with_reducible (first|(refine hK2 _ ?_;clear hK2 K2)|refine And.intro ?_ ?_|intro hb)|((first|(with_reducible apply callArmO)|(with_reducible apply callArm));case h=>exact CallV.plain (Ent.of Try.func77 (by kernel_rfl) rfl) (chan_ok s e.obj e.n hl) (by simp [AV.okB]))|((first|(with_reducible apply callArmO)|(with_reducible apply callArm));case h=>exact CallV.plain (Ent.of Try.func79 (by kernel_rfl) rfl) (setC_ok s { chanB e.obj e.n s.chans with closed:=true } hl) (by simp [AV.okB]))|((first|(with_reducible apply callArmO)|(with_reducible apply callArm));case h=>exact CallV.plain (Ent.of Try.func78 (by kernel_rfl) rfl) (begin_ok s e [⟨16,e.g,0⟩] hl) (by simp [AV.okB]))|((first|(with_reducible apply callArmO)|(with_reducible apply callArm));case h=>exact CallV.plain (Ent.of Try.func78 (by kernel_rfl) rfl) (begin_ok s e [⟨17,-1,e.g⟩,⟨18,-1,0⟩,⟨16,e.g,0⟩] hl) (by simp [AV.okB]))|((first|(with_reducible apply callArmO)|(with_reducible apply callArm));case h=>exact CallV.plain (Ent.of Try.func78 (by kernel_rfl) rfl) (begin_ok s e [⟨18,e.g,0⟩] hl) (by simp [AV.okB]))|((first|(with_reducible apply callArmO)|(with_reducible apply callArm));case h=>exact CallV.plain (Ent.of Try.func78 (by kernel_rfl) rfl) (begin_ok s e [⟨15,-1,e.g⟩,⟨18,e.g,0⟩,⟨16,-1,0⟩] hl) (by simp [AV.okB]))))))))|refine T.skip ?_|refine T.exit ?_|refine T.condT rfl ?_|refine T.condF rfl ?_|refine T.cond rfl (fun hc=>?_) (fun hc=>?_)|refine T.ret ?_|simp only [ThenA,InBlock,reduceIte,Nat.reduceEqDiff]|((repeat ((fail_if_success (refine hK _ ?_));clear hK K));refine hK _ ?_;clear hK K))
  all_goals (try refine T.comm [some (0,0),some (0,1),some (0,1),some (0,0),some (0,1),some (0,1),some (0,1),some (0,1),some (0,1),some (0,1),none,some (1,1)] (by kernel_rfl) (by kernel_rfl) fun K' hK'=>?_;simp only [List.map_cons,List.map_nil,List.zip_cons_cons,List.zip_nil_left];(repeat' (first|(with_reducible refine WC.fin ?_;refine hK' _ ?_;clear hK' K')|((first|(with_reducible refine WC.stepV fun K2 hK2=>?_)|(with_reducible refine WC.stepW fun K2 hK2=>?_));simp only [simprocAttr,implies_true,amz,WCg,WCv,WOw,allP,dav,Chk,List.filter_cons,List.filter_nil,bne_self_eq_false,Nat.reduceBneDiff,Bool.false_eq_true,tys,cnA,cnC,rsA,rsC];(repeat' (first|(with_reducible refine hK2 _ _ ?_;clear hK2 K2)|with_reducible (first|(refine hK2 _ ?_;clear hK2 K2)|refine And.intro ?_ ?_|intro hb)|(with_reducible rfl)|((with_reducible show @Eq ASt _ _);rfl) )))));all_goals ((try simp only [ThenA,InBlock,reduceIte,Nat.reduceEqDiff]);(try ((repeat ((fail_if_success (refine hK _ ?_));clear hK K));refine hK _ ?_;clear hK K))))
  all_goals repeat' (first|refine T.seqK fun K hK=>?_|refine T.block ?_|(refine T.reg (by kernel_rfl) fun K' hK'=>?_;simp only [startSt,frOf,List.map_cons,List.map_nil];(repeat' (first|(with_reducible refine WL.fin ?_;refine hK' _ ?_;clear hK' K')|((with_reducible refine WL.step fun K2 hK2=>?_);simp only [simprocAttr,implies_true,amz,tys];(repeat' (first|with_reducible (first|(refine hK2 _ ?_;clear hK2 K2)|refine And.intro ?_ ?_|intro hb) ))))))|refine T.skip ?_|refine T.exit ?_|refine T.condT rfl ?_|refine T.condF rfl ?_|refine T.cond rfl (fun hc=>?_) (fun hc=>?_)|refine T.ret ?_|simp only [ThenA,InBlock,reduceIte,Nat.reduceEqDiff]|((repeat ((fail_if_success (refine hK _ ?_));clear hK K));refine hK _ ?_;clear hK K))
  all_goals (refine FinA.ret (.inr rfl) Try.results65 ?_;simp only [ares,aresL,ares1,simprocAttr,implies_true,amz,tys,];simp [transB, *])
end Go.Proofs.Ytnckehomadnhoaa
namespace Go.Proofs.Ytnckehomadnhoaa
open Go.RowKit Go.Sort
set_option linter.unusedSimpArgs false
set_option linter.unusedVariables false
def badB (s:Rs) (e:Ev) (w:Wt):Bool:=e.kind != w.kind || e.obj != s.obj || e.k != s.k || e.n != s.n || (decide (0≤w.g) && e.g != w.g) || (decide (w.g < 0) && e.g == w.not)
def fixW (e:Ev) (w x:Wt):Wt:=if (decide (w.g < 0) && decide (x.g < 0))=true then { x with g:=e.g } else x
def nextB (s:Rs) (nx:List Wt):Rs := { s with next:=nx }
def groupB (s:Rs) (e:Ev) (w:Wt) (r:List Wt):Rs × Bool:=if badB s e w=true then (s,false) else (countedB (nextB s (r.map (fixW e w))) e,true)
theorem map_take {α β:Type} {l:List α} {k:Nat} {x : α} (f : α → β) (h:l[k]? = some x):(l.take (k + 1)).map f=(l.take k).map f ++ [f x]:=by
  rw [List.take_add_one,h];simp
set_option maxHeartbeats 8000000 in
set_option maxRecDepth 100000 in
theorem group_bad (s:Rs) (e:Ev) (w:Wt) (r:List Wt) (hs:s.next=w :: r) (hbad:badB s e w=true):PureC Try.prog 63 [rsA s,evA e] (.tup [rsA (groupB s e w r).1,.bool (groupB s e w r).2]):=by
  have hres:groupB s e w r=(s,false):=by simp [groupB,hbad]
  rw [hres]
  simp only [rsA,rsC,List.map_cons,List.map_nil,evA,evC,hs]
  refine PureC.of Try.func63 rfl 97 rfl (by decide) (by simp [AV.okB]) ?_
  repeat' (first|refine T.seqK fun K hK=>?_|refine T.block ?_|(refine T.reg (by kernel_rfl) fun K' hK'=>?_;simp only [startSt,frOf,List.map_cons,List.map_nil];(repeat' (first|(with_reducible refine WL.fin ?_;refine hK' _ ?_;clear hK' K')|((with_reducible refine WL.step fun K2 hK2=>?_);simp only [simprocAttr,implies_true,amz,tys,List.map_cons,wtC,List.getElem?_cons_zero,Int.toNat_zero,Int.reduceToNat];(repeat' (first|with_reducible (first|(refine hK2 _ ?_;clear hK2 K2)|refine And.intro ?_ ?_|intro hb) ))))))|refine T.skip ?_|refine T.exit ?_|refine T.condT rfl ?_|refine T.condF rfl ?_|refine T.cond rfl (fun hc=>?_) (fun hc=>?_)|refine T.ret ?_|simp only [ThenA,InBlock,reduceIte,Nat.reduceEqDiff]|((repeat ((fail_if_success (refine hK _ ?_));clear hK K));refine hK _ ?_;clear hK K))
  all_goals first
    | ((refine FinA.ret (.inr rfl) Try.results63 ?_;simp only [ares,aresL,ares1,simprocAttr,implies_true,amz,tys,wtC]);done)
    | (exfalso;simp_all [badB];done)
    | (exfalso;simp_all [badB];omega)
set_option maxHeartbeats 8000000 in
set_option maxRecDepth 100000 in
theorem group_good (s:Rs) (e:Ev) (w:Wt) (r:List Wt) (hs:s.next=w :: r) (hl:s.chans.length ≤ 1000000) (hr:r.length ≤ 1000) (hbad' : badB s e w=false):PureC Try.prog 63 [rsA s,evA e] (.tup [rsA (groupB s e w r).1,.bool (groupB s e w r).2]):=by
  have hres:groupB s e w r=(countedB (nextB s (r.map (fixW e w))) e,true):=by simp [groupB,hbad']
  rw [hres]
  have hb2:=hbad'
  simp only [badB,Bool.or_eq_false_iff] at hb2
  obtain ⟨⟨⟨⟨⟨b1,b2⟩,b3⟩,b4⟩,b5⟩,b6⟩:=hb2
  simp only [rsA,rsC,List.map_cons,List.map_nil,evA,evC]
  refine PureC.of Try.func63 rfl 97 rfl (by decide) (by simp [AV.okB]) ?_
  have two:(decide (0≤w.g)=true∧(e.g != w.g)=false∧decide (w.g < 0)=false)∨(decide (0≤w.g)=false∧decide (w.g < 0)=true∧(e.g == w.not)=false):=by
    by_cases h0 : 0≤w.g
    · left;simp_all
    · right;simp_all
  rcases two with ⟨w1,w2,w3⟩|⟨w1,w3,w2⟩
  · repeat' (first|refine T.seqK fun K hK=>?_|refine T.block ?_|(refine T.reg (by kernel_rfl) fun K' hK'=>?_;simp only [startSt,frOf,List.map_cons,List.map_nil];(repeat' (first|(with_reducible refine WL.fin ?_;refine hK' _ ?_;clear hK' K')|((with_reducible refine WL.step fun K2 hK2=>?_);simp only [simprocAttr,implies_true,amz,tys,hs,List.map_cons,wtC,List.getElem?_cons_zero,Int.toNat_zero,Int.reduceToNat,b1,b2,b3,b4,w1,w2,w3];(repeat' (first|with_reducible (first|(refine hK2 _ ?_;clear hK2 K2)|refine And.intro ?_ ?_|intro hb) ))))))|refine T.skip ?_|refine T.exit ?_|refine T.condT rfl ?_|refine T.condF rfl ?_|refine T.cond rfl (fun hc=>?_) (fun hc=>?_)|refine T.ret ?_|simp only [ThenA,InBlock,reduceIte,Nat.reduceEqDiff]|((repeat ((fail_if_success (refine hK _ ?_));clear hK K));refine hK _ ?_;clear hK K))
    refine T.loopK (fun k:Nat=>⟨[(0,rsA s),(1,evA e),(2,.ptr 0 0),(3,.ptr 1 0),(4,.ptr 2 0),(5,.bool false),(6,.ptr 3 0),(7,.own 4),(8,.int ((k + 1:Nat):Int))],[(4,.row 108 3 (((r.take k).map (fixW e w)).map wtC)),(3,.box 108 ((wtC w).map .p)),(2,.box 79 [.int 0,.int 0,.p (.val (.slice none 0 0)),.p (.val (.slice none 0 0)),.p (.val (.slice none 0 0)),.p (.val (.slice none 0 0)),.int 0,.int 0,.int 0]),(1,.box 44 ((evC e).map .p)),(0,.box 79 ((rsC s).map .p))],97,5⟩) (fun k=>k≤r.length) (fun k=>r.length - k) 0 (Nat.zero_le _) ((Weak.newrow _ 7 108 3 (show 7 < 97 by decide) rfl).trans (by refine Weak.of' rfl ?_;simp only [wks,reduceIte,Nat.reduceEqDiff,ASt.okB,AV.okB,Nat.reduceLT,implies_true,ASt.add,put_some,Int.natCast_zero,rsA,rsC,wtC,evA,evC,List.map_cons,List.map_nil,List.take_zero,List.filter_nil,Nat.zero_add,Int.natCast_one,hs])) ?_
    rintro k hk KL hKL
    simp only [rsA,rsC,List.map_cons,List.map_nil,wtC,evA,evC,hs]
    have hrk:(r.take k).length + 1 ≤ 2000:=by simp;omega
    have hmx:(r.take k).length + 1≤maxLen:=by unfold maxLen;omega
    have hmy:((r.take k).length + 1) * 24 ≤ 140737488355328:=by omega
    by_cases hlt:k < r.length
    · obtain ⟨x,hx⟩:=at_lt hlt
      have hd:decide (((k + 1:Nat):Int) < ((r.length + 1:Nat):Int))=true:=by simp;omega
      have hcont : ∀ s',Weak s' _→KL s':=fun s' hw=>hKL s' (k + 1) (by rw [map_take (fixW e w) hx,List.map_append];exact hw) (by omega) (by omega)
      repeat' (first|refine T.seqK fun K hK=>?_|refine T.block ?_|(refine T.reg (by kernel_rfl) fun K' hK'=>?_;simp only [startSt,frOf,List.map_cons,List.map_nil];(repeat' (first|(with_reducible refine WL.fin ?_;refine hK' _ ?_;clear hK' K')|((with_reducible refine WL.step fun K2 hK2=>?_);simp only [simprocAttr,implies_true,amz,tys,hx,hd,wtC,hs,List.map_cons,List.getElem?_cons_succ,List.length_cons,w3,hmx,hmy,ml_1];(repeat' (first|with_reducible (first|(refine hK2 _ ?_;clear hK2 K2)|refine And.intro ?_ ?_|intro hb) ))))))|refine T.skip ?_|refine T.exit ?_|refine T.condT rfl ?_|refine T.condF rfl ?_|refine T.cond rfl (fun hc=>?_) (fun hc=>?_)|refine T.ret ?_|simp only [ThenA,InBlock,reduceIte,Nat.reduceEqDiff]|((repeat ((fail_if_success (refine hK _ ?_));clear hK K));refine hK _ ?_;clear hK K))
      all_goals (refine hcont _ ?_;refine Weak.of' rfl ?_;simp only [wks,reduceIte,Nat.reduceEqDiff,ASt.okB,AV.okB,Nat.reduceLT,implies_true,wrap_succ (show k + 1 < 1152921504606846976 by omega),rsA,rsC,wtC,evA,evC,List.map_cons,List.map_nil,hs,fixW,w3,Bool.false_and,Bool.true_and,Bool.false_eq_true,if_false,if_true, *])
    · have hd:decide (((k + 1:Nat):Int) < ((r.length + 1:Nat):Int))=false:=by simp;omega
      refine T.weak (Weak.frz _ 4) ?_;simp only [ASt.frz,List.filter_cons,List.filter_nil,bne_self_eq_false,Nat.reduceBneDiff,Bool.false_eq_true,simprocAttr,implies_true,amz,]
      have ht:r.take k=r:=List.take_of_length_le (by omega)
      rw [ht]
      repeat' (first|refine T.seqK fun K hK=>?_|refine T.block ?_|(refine T.reg (by kernel_rfl) fun K' hK'=>?_;simp only [startSt,frOf,List.map_cons,List.map_nil];(repeat' (first|(with_reducible refine WL.fin ?_;refine hK' _ ?_;clear hK' K')|((with_reducible refine WL.step fun K2 hK2=>?_);simp only [simprocAttr,implies_true,amz,tys,hd,wtC,List.map_cons,List.length_cons,rsA,rsC];(repeat' (first|with_reducible (first|(refine hK2 _ ?_;clear hK2 K2)|refine And.intro ?_ ?_|intro hb)|((first|(with_reducible apply callArmO)|(with_reducible apply callArm));case h=>exact CallV.plain (Ent.of Try.func76 (by kernel_rfl) rfl) (counted_ok (nextB s (r.map (fixW e w))) e hl) (by simp [AV.okB]))))))))|refine T.skip ?_|refine T.exit ?_|refine T.condT rfl ?_|refine T.condF rfl ?_|refine T.cond rfl (fun hc=>?_) (fun hc=>?_)|refine T.ret ?_|simp only [ThenA,InBlock,reduceIte,Nat.reduceEqDiff]|((repeat ((fail_if_success (refine hK _ ?_));clear hK K));refine hK _ ?_;clear hK K))
      all_goals (refine FinA.ret (.inr rfl) Try.results63 ?_;simp only [ares,aresL,ares1,simprocAttr,implies_true,amz,tys,])
  · repeat' (first|refine T.seqK fun K hK=>?_|refine T.block ?_|(refine T.reg (by kernel_rfl) fun K' hK'=>?_;simp only [startSt,frOf,List.map_cons,List.map_nil];(repeat' (first|(with_reducible refine WL.fin ?_;refine hK' _ ?_;clear hK' K')|((with_reducible refine WL.step fun K2 hK2=>?_);simp only [simprocAttr,implies_true,amz,tys,hs,List.map_cons,wtC,List.getElem?_cons_zero,Int.toNat_zero,Int.reduceToNat,b1,b2,b3,b4,w1,w2,w3];(repeat' (first|with_reducible (first|(refine hK2 _ ?_;clear hK2 K2)|refine And.intro ?_ ?_|intro hb) ))))))|refine T.skip ?_|refine T.exit ?_|refine T.condT rfl ?_|refine T.condF rfl ?_|refine T.cond rfl (fun hc=>?_) (fun hc=>?_)|refine T.ret ?_|simp only [ThenA,InBlock,reduceIte,Nat.reduceEqDiff]|((repeat ((fail_if_success (refine hK _ ?_));clear hK K));refine hK _ ?_;clear hK K))
    refine T.loopK (fun k:Nat=>⟨[(0,rsA s),(1,evA e),(2,.ptr 0 0),(3,.ptr 1 0),(4,.ptr 2 0),(5,.bool false),(6,.ptr 3 0),(7,.own 4),(8,.int ((k + 1:Nat):Int))],[(4,.row 108 3 (((r.take k).map (fixW e w)).map wtC)),(3,.box 108 ((wtC w).map .p)),(2,.box 79 [.int 0,.int 0,.p (.val (.slice none 0 0)),.p (.val (.slice none 0 0)),.p (.val (.slice none 0 0)),.p (.val (.slice none 0 0)),.int 0,.int 0,.int 0]),(1,.box 44 ((evC e).map .p)),(0,.box 79 ((rsC s).map .p))],97,5⟩) (fun k=>k≤r.length) (fun k=>r.length - k) 0 (Nat.zero_le _) ((Weak.newrow _ 7 108 3 (show 7 < 97 by decide) rfl).trans (by refine Weak.of' rfl ?_;simp only [wks,reduceIte,Nat.reduceEqDiff,ASt.okB,AV.okB,Nat.reduceLT,implies_true,ASt.add,put_some,Int.natCast_zero,rsA,rsC,wtC,evA,evC,List.map_cons,List.map_nil,List.take_zero,List.filter_nil,Nat.zero_add,Int.natCast_one,hs])) ?_
    rintro k hk KL hKL
    simp only [rsA,rsC,List.map_cons,List.map_nil,wtC,evA,evC,hs]
    have hrk:(r.take k).length + 1 ≤ 2000:=by simp;omega
    have hmx:(r.take k).length + 1≤maxLen:=by unfold maxLen;omega
    have hmy:((r.take k).length + 1) * 24 ≤ 140737488355328:=by omega
    by_cases hlt:k < r.length
    · obtain ⟨x,hx⟩:=at_lt hlt
      have hd:decide (((k + 1:Nat):Int) < ((r.length + 1:Nat):Int))=true:=by simp;omega
      have hcont : ∀ s',Weak s' _→KL s':=fun s' hw=>hKL s' (k + 1) (by rw [map_take (fixW e w) hx,List.map_append];exact hw) (by omega) (by omega)
      repeat' (first|refine T.seqK fun K hK=>?_|refine T.block ?_|(refine T.reg (by kernel_rfl) fun K' hK'=>?_;simp only [startSt,frOf,List.map_cons,List.map_nil];(repeat' (first|(with_reducible refine WL.fin ?_;refine hK' _ ?_;clear hK' K')|((with_reducible refine WL.step fun K2 hK2=>?_);simp only [simprocAttr,implies_true,amz,tys,hx,hd,wtC,hs,List.map_cons,List.getElem?_cons_succ,List.length_cons,w3,hmx,hmy,ml_1];(repeat' (first|with_reducible (first|(refine hK2 _ ?_;clear hK2 K2)|refine And.intro ?_ ?_|intro hb) ))))))|refine T.skip ?_|refine T.exit ?_|refine T.condT rfl ?_|refine T.condF rfl ?_|refine T.cond rfl (fun hc=>?_) (fun hc=>?_)|refine T.ret ?_|simp only [ThenA,InBlock,reduceIte,Nat.reduceEqDiff]|((repeat ((fail_if_success (refine hK _ ?_));clear hK K));refine hK _ ?_;clear hK K))
      all_goals (refine hcont _ ?_;refine Weak.of' rfl ?_;simp only [wks,reduceIte,Nat.reduceEqDiff,ASt.okB,AV.okB,Nat.reduceLT,implies_true,wrap_succ (show k + 1 < 1152921504606846976 by omega),rsA,rsC,wtC,evA,evC,List.map_cons,List.map_nil,hs,fixW,w3,Bool.false_and,Bool.true_and,Bool.false_eq_true,if_false,if_true, *])
    · have hd:decide (((k + 1:Nat):Int) < ((r.length + 1:Nat):Int))=false:=by simp;omega
      refine T.weak (Weak.frz _ 4) ?_;simp only [ASt.frz,List.filter_cons,List.filter_nil,bne_self_eq_false,Nat.reduceBneDiff,Bool.false_eq_true,simprocAttr,implies_true,amz,]
      have ht:r.take k=r:=List.take_of_length_le (by omega)
      rw [ht]
      repeat' (first|refine T.seqK fun K hK=>?_|refine T.block ?_|(refine T.reg (by kernel_rfl) fun K' hK'=>?_;simp only [startSt,frOf,List.map_cons,List.map_nil];(repeat' (first|(with_reducible refine WL.fin ?_;refine hK' _ ?_;clear hK' K')|((with_reducible refine WL.step fun K2 hK2=>?_);simp only [simprocAttr,implies_true,amz,tys,hd,wtC,List.map_cons,List.length_cons,rsA,rsC];(repeat' (first|with_reducible (first|(refine hK2 _ ?_;clear hK2 K2)|refine And.intro ?_ ?_|intro hb)|((first|(with_reducible apply callArmO)|(with_reducible apply callArm));case h=>exact CallV.plain (Ent.of Try.func76 (by kernel_rfl) rfl) (counted_ok (nextB s (r.map (fixW e w))) e hl) (by simp [AV.okB]))))))))|refine T.skip ?_|refine T.exit ?_|refine T.condT rfl ?_|refine T.condF rfl ?_|refine T.cond rfl (fun hc=>?_) (fun hc=>?_)|refine T.ret ?_|simp only [ThenA,InBlock,reduceIte,Nat.reduceEqDiff]|((repeat ((fail_if_success (refine hK _ ?_));clear hK K));refine hK _ ?_;clear hK K))
      all_goals (refine FinA.ret (.inr rfl) Try.results63 ?_;simp only [ares,aresL,ares1,simprocAttr,implies_true,amz,tys,])
theorem group_ok (s:Rs) (e:Ev) (w:Wt) (r:List Wt) (hs:s.next=w :: r) (hl:s.chans.length ≤ 1000000) (hr:r.length ≤ 1000):PureC Try.prog 63 [rsA s,evA e] (.tup [rsA (groupB s e w r).1,.bool (groupB s e w r).2]):=by
  by_cases h:badB s e w=true
  · exact group_bad s e w r hs h
  · exact group_good s e w r hs hl hr (by simpa using h)
end Go.Proofs.Ytnckehomadnhoaa
namespace Go.Proofs.Ytnckehomadnhoaa
open Go.RowKit Go.Sort
set_option linter.unusedSimpArgs false
set_option linter.unusedVariables false
def lockd (m:Lk) (b:Bool):Lk := { m with locked:=b }
def readd (m:Lk) (d:Int):Lk := { m with readers:=IntKind.i64.wrap d }
def otherB (s:Rs) (e:Ev):Rs × Bool :=
  if (e.kind == 6)=true then (setL s (lockd (lockB e.obj e.off s.locks) true),!(lockB e.obj e.off s.locks).locked && (lockB e.obj e.off s.locks).readers == 0)
  else if (e.kind == 7)=true then (setL s (lockd (lockB e.obj e.off s.locks) false),!(!(lockB e.obj e.off s.locks).locked))
  else if (e.kind == 8)=true then (setL s (readd (lockB e.obj e.off s.locks) ((lockB e.obj e.off s.locks).readers + 1)),!(lockB e.obj e.off s.locks).locked)
  else if (e.kind == 9)=true then (setL s (readd (lockB e.obj e.off s.locks) ((lockB e.obj e.off s.locks).readers - 1)),decide (0≤IntKind.i64.wrap ((lockB e.obj e.off s.locks).readers - 1)))
  else if (e.kind == 12)=true then ({ s with done:=s.done ++ [(e.obj,e.off)] },!doneB s e.obj e.off)
  else if (e.kind == 13)=true then (s,doneB s e.obj e.off)
  else if (e.kind == 14)=true then ({ s with gor:=IntKind.i64.wrap (s.gor + 1) },e.k == s.gor)
  else (s,true)
set_option maxHeartbeats 8000000 in
set_option maxRecDepth 100000 in
theorem other_ok (s:Rs) (e:Ev) (hl:s.locks.length ≤ 1000000) (hdn:s.done.length ≤ 1000000):PureC Try.prog 66 [rsA s,evA e] (.tup [rsA (otherB s e).1,.bool (otherB s e).2]):=by
  simp only [rsA,rsC,List.map_cons,List.map_nil,evA,evC]
  refine PureC.of Try.func66 rfl 109 rfl (by decide) (by simp [AV.okB]) ?_
  have hmx:s.done.length + 1≤maxLen:=by unfold maxLen;omega
  have hmw:s.done.length≤maxLen:=by unfold maxLen;omega
  have hmy:(s.done.length + 1) * 16 ≤ 140737488355328:=by omega
  have hmz:s.done.length * 16 ≤ 140737488355328:=by omega
  by_cases h12:(e.kind == 12)=true
  · have n6:(e.kind == 6)=false:=by simp at h12 ⊢;omega
    have n7:(e.kind == 7)=false:=by simp at h12 ⊢;omega
    have n8:(e.kind == 8)=false:=by simp at h12 ⊢;omega
    have n9:(e.kind == 9)=false:=by simp at h12 ⊢;omega
    repeat' (first|refine T.seqK fun K hK=>?_|refine T.block ?_|(refine T.reg (by kernel_rfl) fun K' hK'=>?_;simp only [startSt,frOf,List.map_cons,List.map_nil];(repeat' (first|(with_reducible refine WL.fin ?_;refine hK' _ ?_;clear hK' K')|((with_reducible refine WL.step fun K2 hK2=>?_);simp only [simprocAttr,implies_true,amz,tys,lkA,lkC,rsA,rsC,n6,n7,n8,n9,h12];(repeat' (first|with_reducible (first|(refine hK2 _ ?_;clear hK2 K2)|refine And.intro ?_ ?_|intro hb)|((first|(with_reducible apply callArmO)|(with_reducible apply callArm));case h=>exact CallV.plain (Ent.of Try.func80 (by kernel_rfl) rfl) (lock_ok s e.obj e.off hl) (by simp [AV.okB]))|((first|(with_reducible apply callArmO)|(with_reducible apply callArm));case h=>exact CallV.plain (Ent.of Try.func82 (by kernel_rfl) rfl) (done_ok s e.obj e.off hdn) (by simp [AV.okB]))))))))|refine T.skip ?_|refine T.exit ?_|refine T.condT rfl ?_|refine T.condF rfl ?_|refine T.cond rfl (fun hc=>?_) (fun hc=>?_)|refine T.ret ?_|simp only [ThenA,InBlock,reduceIte,Nat.reduceEqDiff]|((repeat ((fail_if_success (refine hK _ ?_));clear hK K));refine hK _ ?_;clear hK K))
    refine T.comm [none,some (0,3),some (0,1),none,some (0,3),some (0,3),some (0,3),some (0,3),some (0,3),some (0,2),none,some (3,3),none] (by kernel_rfl) (by kernel_rfl) fun K' hK'=>?_;simp only [List.map_cons,List.map_nil,List.zip_cons_cons,List.zip_nil_left];(repeat' (first|(with_reducible refine WC.fin ?_;refine hK' _ ?_;clear hK' K')|((first|(with_reducible refine WC.stepV fun K2 hK2=>?_)|(with_reducible refine WC.stepW fun K2 hK2=>?_));simp only [simprocAttr,implies_true,amz,WCg,WCv,WOw,allP,dav,Chk,List.filter_cons,List.filter_nil,bne_self_eq_false,Nat.reduceBneDiff,Bool.false_eq_true,tys,lkA,lkC,rsA,rsC,hmx,hmy,hmw,hmz,ml_1];(repeat' (first|(with_reducible refine hK2 _ _ ?_;clear hK2 K2)|with_reducible (first|(refine hK2 _ ?_;clear hK2 K2)|refine And.intro ?_ ?_|intro hb)|(with_reducible rfl)|((with_reducible show @Eq ASt _ _);rfl) )))));all_goals ((try simp only [ThenA,InBlock,reduceIte,Nat.reduceEqDiff]);(try ((repeat ((fail_if_success (refine hK _ ?_));clear hK K));refine hK _ ?_;clear hK K)))
    refine T.weak (Weak.frz _ 6) ?_;simp only [ASt.frz,List.filter_cons,List.filter_nil,bne_self_eq_false,Nat.reduceBneDiff,Bool.false_eq_true,simprocAttr,implies_true,amz,tys]
    repeat' (first|refine T.seqK fun K hK=>?_|refine T.block ?_|(refine T.reg (by kernel_rfl) fun K' hK'=>?_;simp only [startSt,frOf,List.map_cons,List.map_nil];(repeat' (first|(with_reducible refine WL.fin ?_;refine hK' _ ?_;clear hK' K')|((with_reducible refine WL.step fun K2 hK2=>?_);simp only [simprocAttr,implies_true,amz,tys,lkA,lkC,rsA,rsC];(repeat' (first|with_reducible (first|(refine hK2 _ ?_;clear hK2 K2)|refine And.intro ?_ ?_|intro hb) ))))))|refine T.skip ?_|refine T.exit ?_|refine T.condT rfl ?_|refine T.condF rfl ?_|refine T.cond rfl (fun hc=>?_) (fun hc=>?_)|refine T.ret ?_|simp only [ThenA,InBlock,reduceIte,Nat.reduceEqDiff]|((repeat ((fail_if_success (refine hK _ ?_));clear hK K));refine hK _ ?_;clear hK K))
    all_goals (refine FinA.ret (.inr rfl) Try.results66 ?_;simp only [ares,aresL,ares1,simprocAttr,implies_true,amz,tys,];simp [otherB,loC, *])
  have h12' : (e.kind == 12)=false:=by simpa using h12
  repeat' (first|refine T.seqK fun K hK=>?_|refine T.block ?_|(refine T.reg (by kernel_rfl) fun K' hK'=>?_;simp only [startSt,frOf,List.map_cons,List.map_nil];(repeat' (first|(with_reducible refine WL.fin ?_;refine hK' _ ?_;clear hK' K')|((with_reducible refine WL.step fun K2 hK2=>?_);simp only [simprocAttr,implies_true,amz,tys,lkA,lkC,rsA,rsC,h12'];(repeat' (first|with_reducible (first|(refine hK2 _ ?_;clear hK2 K2)|refine And.intro ?_ ?_|intro hb)|((first|(with_reducible apply callArmO)|(with_reducible apply callArm));case h=>exact CallV.plain (Ent.of Try.func80 (by kernel_rfl) rfl) (lock_ok s e.obj e.off hl) (by simp [AV.okB]))|((first|(with_reducible apply callArmO)|(with_reducible apply callArm));case h=>exact CallV.plain (Ent.of Try.func81 (by kernel_rfl) rfl) (setL_ok s (lockd (lockB e.obj e.off s.locks) false) hl) (by simp [AV.okB]))|((first|(with_reducible apply callArmO)|(with_reducible apply callArm));case h=>exact CallV.plain (Ent.of Try.func81 (by kernel_rfl) rfl) (setL_ok s (readd (lockB e.obj e.off s.locks) ((lockB e.obj e.off s.locks).readers + 1)) hl) (by simp [AV.okB]))))))))|refine T.skip ?_|refine T.exit ?_|refine T.condT rfl ?_|refine T.condF rfl ?_|refine T.cond rfl (fun hc=>?_) (fun hc=>?_)|refine T.ret ?_|simp only [ThenA,InBlock,reduceIte,Nat.reduceEqDiff]|((repeat ((fail_if_success (refine hK _ ?_));clear hK K));refine hK _ ?_;clear hK K))
  · refine T.comm [some (0,0),some (0,0),some (0,0),some (0,1),some (0,0),some (0,1),some (0,1),some (0,1),some (0,1),none,some (1,1)] (by kernel_rfl) (by kernel_rfl) fun K' hK'=>?_;simp only [List.map_cons,List.map_nil,List.zip_cons_cons,List.zip_nil_left];(repeat' (first|(with_reducible refine WC.fin ?_;refine hK' _ ?_;clear hK' K')|((first|(with_reducible refine WC.stepV fun K2 hK2=>?_)|(with_reducible refine WC.stepW fun K2 hK2=>?_));simp only [simprocAttr,implies_true,amz,WCg,WCv,WOw,allP,dav,Chk,List.filter_cons,List.filter_nil,bne_self_eq_false,Nat.reduceBneDiff,Bool.false_eq_true,tys,lkA,lkC,rsA,rsC];(repeat' (first|(with_reducible refine hK2 _ _ ?_;clear hK2 K2)|with_reducible (first|(refine hK2 _ ?_;clear hK2 K2)|refine And.intro ?_ ?_|intro hb)|(with_reducible rfl)|((with_reducible show @Eq ASt _ _);rfl)|((first|(with_reducible apply callArmO)|(with_reducible apply callArm));case h=>exact CallV.plain (Ent.of Try.func81 (by kernel_rfl) rfl) (setL_ok s (lockd (lockB e.obj e.off s.locks) true) hl) (by simp [AV.okB])))))));all_goals ((try simp only [ThenA,InBlock,reduceIte,Nat.reduceEqDiff]);(try ((repeat ((fail_if_success (refine hK _ ?_));clear hK K));refine hK _ ?_;clear hK K)))
    all_goals repeat' (first|refine T.seqK fun K hK=>?_|refine T.block ?_|(refine T.reg (by kernel_rfl) fun K' hK'=>?_;simp only [startSt,frOf,List.map_cons,List.map_nil];(repeat' (first|(with_reducible refine WL.fin ?_;refine hK' _ ?_;clear hK' K')|((with_reducible refine WL.step fun K2 hK2=>?_);simp only [simprocAttr,implies_true,amz,tys,lkA,lkC,rsA,rsC];(repeat' (first|with_reducible (first|(refine hK2 _ ?_;clear hK2 K2)|refine And.intro ?_ ?_|intro hb) ))))))|refine T.skip ?_|refine T.exit ?_|refine T.condT rfl ?_|refine T.condF rfl ?_|refine T.cond rfl (fun hc=>?_) (fun hc=>?_)|refine T.ret ?_|simp only [ThenA,InBlock,reduceIte,Nat.reduceEqDiff]|((repeat ((fail_if_success (refine hK _ ?_));clear hK K));refine hK _ ?_;clear hK K))
    all_goals (refine FinA.ret (.inr rfl) Try.results66 ?_;simp only [ares,aresL,ares1,simprocAttr,implies_true,amz,tys,];simp [otherB,readd,lockd, *])
  · refine FinA.ret (.inr rfl) Try.results66 ?_;simp only [ares,aresL,ares1,simprocAttr,implies_true,amz,tys,];simp [otherB,readd,lockd, *]
  · refine FinA.ret (.inr rfl) Try.results66 ?_;simp only [ares,aresL,ares1,simprocAttr,implies_true,amz,tys,];simp [otherB,readd,lockd, *]
  · refine T.comm [some (0,0),some (0,0),some (0,0),some (0,1),some (0,1),some (0,1),none,some (1,1)] (by kernel_rfl) (by kernel_rfl) fun K' hK'=>?_;simp only [List.map_cons,List.map_nil,List.zip_cons_cons,List.zip_nil_left];(repeat' (first|(with_reducible refine WC.fin ?_;refine hK' _ ?_;clear hK' K')|((first|(with_reducible refine WC.stepV fun K2 hK2=>?_)|(with_reducible refine WC.stepW fun K2 hK2=>?_));simp only [simprocAttr,implies_true,amz,WCg,WCv,WOw,allP,dav,Chk,List.filter_cons,List.filter_nil,bne_self_eq_false,Nat.reduceBneDiff,Bool.false_eq_true,tys,lkA,lkC,rsA,rsC];(repeat' (first|(with_reducible refine hK2 _ _ ?_;clear hK2 K2)|with_reducible (first|(refine hK2 _ ?_;clear hK2 K2)|refine And.intro ?_ ?_|intro hb)|(with_reducible rfl)|((with_reducible show @Eq ASt _ _);rfl)|((first|(with_reducible apply callArmO)|(with_reducible apply callArm));case h=>exact CallV.plain (Ent.of Try.func81 (by kernel_rfl) rfl) (setL_ok s (readd (lockB e.obj e.off s.locks) ((lockB e.obj e.off s.locks).readers - 1)) hl) (by simp [AV.okB])))))));all_goals ((try simp only [ThenA,InBlock,reduceIte,Nat.reduceEqDiff]);(try ((repeat ((fail_if_success (refine hK _ ?_));clear hK K));refine hK _ ?_;clear hK K)))
    all_goals repeat' (first|refine T.seqK fun K hK=>?_|refine T.block ?_|(refine T.reg (by kernel_rfl) fun K' hK'=>?_;simp only [startSt,frOf,List.map_cons,List.map_nil];(repeat' (first|(with_reducible refine WL.fin ?_;refine hK' _ ?_;clear hK' K')|((with_reducible refine WL.step fun K2 hK2=>?_);simp only [simprocAttr,implies_true,amz,tys,lkA,lkC,rsA,rsC];(repeat' (first|with_reducible (first|(refine hK2 _ ?_;clear hK2 K2)|refine And.intro ?_ ?_|intro hb) ))))))|refine T.skip ?_|refine T.exit ?_|refine T.condT rfl ?_|refine T.condF rfl ?_|refine T.cond rfl (fun hc=>?_) (fun hc=>?_)|refine T.ret ?_|simp only [ThenA,InBlock,reduceIte,Nat.reduceEqDiff]|((repeat ((fail_if_success (refine hK _ ?_));clear hK K));refine hK _ ?_;clear hK K))
    all_goals (refine FinA.ret (.inr rfl) Try.results66 ?_;simp only [ares,aresL,ares1,simprocAttr,implies_true,amz,tys,];simp [otherB,readd,lockd, *])
  · refine T.drw 7 (by kernel_rfl) (by kernel_rfl) fun K' hK'=>?_;simp only [List.map_cons,List.map_nil];(repeat' (first|(with_reducible refine WL.fin ?_;refine hK' _ ?_;clear hK' K')|(with_reducible refine WD.fin ?_)|((with_reducible first|refine WL.step fun K2 hK2=>?_|refine WD.step fun K2 hK2=>?_);simp only [simprocAttr,implies_true,amz,tys,lkA,lkC,rsA,rsC];(repeat' (first|with_reducible (first|(refine hK2 _ ?_;clear hK2 K2)|refine And.intro ?_ ?_|intro hb)|((first|(with_reducible apply callArmO)|(with_reducible apply callArm));case h=>exact CallV.plain (Ent.of Try.func82 (by kernel_rfl) rfl) (done_ok s e.obj e.off hdn) (by simp [AV.okB])))))));all_goals ((try simp only [ThenA,InBlock,reduceIte,Nat.reduceEqDiff]);(try ((repeat ((fail_if_success (refine hK _ ?_));clear hK K));refine hK _ ?_;clear hK K)))
    all_goals repeat' (first|refine T.seqK fun K hK=>?_|refine T.block ?_|(refine T.reg (by kernel_rfl) fun K' hK'=>?_;simp only [startSt,frOf,List.map_cons,List.map_nil];(repeat' (first|(with_reducible refine WL.fin ?_;refine hK' _ ?_;clear hK' K')|((with_reducible refine WL.step fun K2 hK2=>?_);simp only [simprocAttr,implies_true,amz,tys,lkA,lkC,rsA,rsC];(repeat' (first|with_reducible (first|(refine hK2 _ ?_;clear hK2 K2)|refine And.intro ?_ ?_|intro hb) ))))))|refine T.skip ?_|refine T.exit ?_|refine T.condT rfl ?_|refine T.condF rfl ?_|refine T.cond rfl (fun hc=>?_) (fun hc=>?_)|refine T.ret ?_|simp only [ThenA,InBlock,reduceIte,Nat.reduceEqDiff]|((repeat ((fail_if_success (refine hK _ ?_));clear hK K));refine hK _ ?_;clear hK K))
    all_goals (refine FinA.ret (.inr rfl) Try.results66 ?_;simp only [ares,aresL,ares1,simprocAttr,implies_true,amz,tys,];simp [otherB,readd,lockd, *])
  · refine T.comm [some (0,0),some (0,1),some (0,1),some (0,1),some (0,1),none,some (1,1)] (by kernel_rfl) (by kernel_rfl) fun K' hK'=>?_;simp only [List.map_cons,List.map_nil,List.zip_cons_cons,List.zip_nil_left];(repeat' (first|(with_reducible refine WC.fin ?_;refine hK' _ ?_;clear hK' K')|((first|(with_reducible refine WC.stepV fun K2 hK2=>?_)|(with_reducible refine WC.stepW fun K2 hK2=>?_));simp only [simprocAttr,implies_true,amz,WCg,WCv,WOw,allP,dav,Chk,List.filter_cons,List.filter_nil,bne_self_eq_false,Nat.reduceBneDiff,Bool.false_eq_true,tys,lkA,lkC,rsA,rsC];(repeat' (first|(with_reducible refine hK2 _ _ ?_;clear hK2 K2)|with_reducible (first|(refine hK2 _ ?_;clear hK2 K2)|refine And.intro ?_ ?_|intro hb)|(with_reducible rfl)|((with_reducible show @Eq ASt _ _);rfl) )))));all_goals ((try simp only [ThenA,InBlock,reduceIte,Nat.reduceEqDiff]);(try ((repeat ((fail_if_success (refine hK _ ?_));clear hK K));refine hK _ ?_;clear hK K)))
    all_goals repeat' (first|refine T.seqK fun K hK=>?_|refine T.block ?_|(refine T.reg (by kernel_rfl) fun K' hK'=>?_;simp only [startSt,frOf,List.map_cons,List.map_nil];(repeat' (first|(with_reducible refine WL.fin ?_;refine hK' _ ?_;clear hK' K')|((with_reducible refine WL.step fun K2 hK2=>?_);simp only [simprocAttr,implies_true,amz,tys,lkA,lkC,rsA,rsC];(repeat' (first|with_reducible (first|(refine hK2 _ ?_;clear hK2 K2)|refine And.intro ?_ ?_|intro hb) ))))))|refine T.skip ?_|refine T.exit ?_|refine T.condT rfl ?_|refine T.condF rfl ?_|refine T.cond rfl (fun hc=>?_) (fun hc=>?_)|refine T.ret ?_|simp only [ThenA,InBlock,reduceIte,Nat.reduceEqDiff]|((repeat ((fail_if_success (refine hK _ ?_));clear hK K));refine hK _ ?_;clear hK K))
    all_goals (refine FinA.ret (.inr rfl) Try.results66 ?_;simp only [ares,aresL,ares1,simprocAttr,implies_true,amz,tys,];simp [otherB,readd,lockd, *])
  · refine FinA.ret (.inr rfl) Try.results66 ?_;simp only [ares,aresL,ares1,simprocAttr,implies_true,amz,tys,];simp [otherB,readd,lockd, *]
end Go.Proofs.Ytnckehomadnhoaa
namespace Go.Proofs.Ytnckehomadnhoaa
open Go.RowKit Go.Sort
set_option linter.unusedSimpArgs false
set_option linter.unusedVariables false
theorem AVle.agg {xs ys:List AV} (hl:xs.length=ys.length) (h : ∀ (j:Nat) x y,xs[j]? = some x→ys[j]? = some y→AVle x y):AVle (.agg xs) (.agg ys):=fun N D loc w v hv=>by
  cases hv with
  | agg _ vs h1 h2 h3 =>
    refine .agg ys vs (h1.trans hl) (fun j y hy=>?_) h3
    have hlt:j < xs.length:=by rw [hl];exact (List.getElem?_eq_some_iff.1 hy).1
    exact h j _ y (List.getElem?_eq_getElem hlt) hy N D loc w _ (h2 j _ (List.getElem?_eq_getElem hlt))
theorem PureC.le {P:Program} {f:FuncId} {xs:List AV} {r r' : AV} (h:PureC P f xs r) (hle:AVle r r'):PureC P f xs r':=fun L w vs hL hvs=>(h L w vs hL hvs).mono fun _ _ ⟨v,h1,h2,h3⟩=>⟨v,h1,h2,hle _ _ _ _ _ h3⟩
set_option maxRecDepth 100000 in
theorem new_ok:PureC Try.prog 47 [] (rsA rs0):=by
  refine PureC.le (r := .agg [.int 0,.int 1,.p (.val (.slice none 0 0)),.p (.val (.slice none 0 0)),.p (.val (.slice none 0 0)),.p (.val (.slice none 0 0)),.int 0,.int 0,.int 0]) ?_ ?_
  · refine PureC.of Try.func47 rfl 2 rfl (by decide) (by simp [AV.okB]) ?_
    repeat' (first|refine T.seqK fun K hK=>?_|refine T.block ?_|(refine T.reg (by kernel_rfl) fun K' hK'=>?_;simp only [startSt,frOf,List.map_cons,List.map_nil];(repeat' (first|(with_reducible refine WL.fin ?_;refine hK' _ ?_;clear hK' K')|((with_reducible refine WL.step fun K2 hK2=>?_);simp only [simprocAttr,implies_true,amz,tys];(repeat' (first|with_reducible (first|(refine hK2 _ ?_;clear hK2 K2)|refine And.intro ?_ ?_|intro hb) ))))))|refine T.skip ?_|refine T.exit ?_|refine T.condT rfl ?_|refine T.condF rfl ?_|refine T.cond rfl (fun hc=>?_) (fun hc=>?_)|refine T.ret ?_|simp only [ThenA,InBlock,reduceIte,Nat.reduceEqDiff]|((repeat ((fail_if_success (refine hK _ ?_));clear hK K));refine hK _ ?_;clear hK K))
    all_goals (refine FinA.ret (.inr rfl) Try.results47 ?_;simp only [ares,aresL,ares1,simprocAttr,implies_true,amz,tys,])
  · refine AVle.agg rfl fun j x y hx hy=>?_
    rcases j with _|_|_|_|_|_|_|_|_|j <;> simp [rsC,rs0] at hx hy <;> subst hx <;> subst hy <;> first|exact AVle.refl _|exact AVle.nil _
def stepB (s:Rs) (e:Ev):Rs × Bool:=match s.next with
  | w :: r=>groupB s e w r
  | []=>if channelB e.kind=true then transB s e else otherB s e
def cnt1 (s:Rs):Rs := { s with count:=IntKind.i64.wrap (s.count + 1) }
def noAdd (s:Rs) (e:Ev):Bool := !validB e || decide (5000≤s.count) || decide (s.gor≤e.g)
def addB (s:Rs) (e:Ev):Rs × Bool:=if noAdd s e=true then (s,false) else if (stepB s e).2=true then (cnt1 (stepB s e).1,true) else (s,false)
structure Sm (s:Rs):Prop where
  c:s.chans.length ≤ 1000000
  l:s.locks.length ≤ 1000000
  d:s.done.length ≤ 1000000
  n:s.next.length ≤ 1000
set_option maxHeartbeats 8000000 in
set_option maxRecDepth 100000 in
theorem add_ok (s:Rs) (e:Ev) (hs:Sm s):PureC Try.prog 48 [rsA s,evA e] (.tup [rsA (addB s e).1,.bool (addB s e).2]):=by
  by_cases hno:noAdd s e=true
  · have hres:addB s e=(s,false):=by simp [addB,hno]
    rw [hres]
    simp only [rsA,rsC,List.map_cons,List.map_nil,evA,evC]
    refine PureC.of Try.func48 rfl 59 rfl (by decide) (by simp [AV.okB]) ?_
    repeat' (first|refine T.seqK fun K hK=>?_|refine T.block ?_|(refine T.reg (by kernel_rfl) fun K' hK'=>?_;simp only [startSt,frOf,List.map_cons,List.map_nil];(repeat' (first|(with_reducible refine WL.fin ?_;refine hK' _ ?_;clear hK' K')|((with_reducible refine WL.step fun K2 hK2=>?_);simp only [simprocAttr,implies_true,amz,tys];(repeat' (first|with_reducible (first|(refine hK2 _ ?_;clear hK2 K2)|refine And.intro ?_ ?_|intro hb)|((first|(with_reducible apply callArmO)|(with_reducible apply callArm));case h=>exact CallV.plain (Ent.of Try.func62 (by kernel_rfl) rfl) (validR_ok e) (by simp [AV.okB]))))))))|refine T.skip ?_|refine T.exit ?_|refine T.condT rfl ?_|refine T.condF rfl ?_|refine T.cond rfl (fun hc=>?_) (fun hc=>?_)|refine T.ret ?_|simp only [ThenA,InBlock,reduceIte,Nat.reduceEqDiff]|((repeat ((fail_if_success (refine hK _ ?_));clear hK K));refine hK _ ?_;clear hK K))
    all_goals first
      | ((refine FinA.ret (.inr rfl) Try.results48 ?_;simp only [ares,aresL,ares1,simprocAttr,implies_true,amz,tys,]);done)
      | (exfalso;simp_all [noAdd];done)
  · have hno' : noAdd s e=false:=by simpa using hno
    have hn2:=hno'
    simp only [noAdd,Bool.or_eq_false_iff] at hn2
    obtain ⟨⟨a1,a2⟩,a3⟩:=hn2
    cases hnx:s.next with
    | cons w r =>
      have hst:stepB s e=groupB s e w r:=by simp [stepB,hnx]
      have hrl:r.length ≤ 1000:=by have:=hs.n;rw [hnx] at this;simp at this;omega
      have hd:decide ((0:Int) < ((r.length + 1:Nat):Int))=true:=by simp
      have hg:=group_ok s e w r hnx hs.c hrl
      simp only [rsA,rsC,List.map_cons,List.map_nil,evA,evC,hnx] at hg
      simp only [rsA,rsC,List.map_cons,List.map_nil,evA,evC]
      refine PureC.of Try.func48 rfl 59 rfl (by decide) (by simp [AV.okB]) ?_
      repeat' (first|refine T.seqK fun K hK=>?_|refine T.block ?_|(refine T.reg (by kernel_rfl) fun K' hK'=>?_;simp only [startSt,frOf,List.map_cons,List.map_nil];(repeat' (first|(with_reducible refine WL.fin ?_;refine hK' _ ?_;clear hK' K')|((with_reducible refine WL.step fun K2 hK2=>?_);simp only [simprocAttr,implies_true,amz,tys,a1,a2,a3,hd,hnx,List.length_cons,List.map_cons,rsA,rsC];(repeat' (first|with_reducible (first|(refine hK2 _ ?_;clear hK2 K2)|refine And.intro ?_ ?_|intro hb)|((first|(with_reducible apply callArmO)|(with_reducible apply callArm));case h=>exact CallV.plain (Ent.of Try.func62 (by kernel_rfl) rfl) (validR_ok e) (by simp [AV.okB]))|((first|(with_reducible apply callArmO)|(with_reducible apply callArm));case h=>exact CallV.plain (Ent.of Try.func63 (by kernel_rfl) rfl) (hg) (by simp [AV.okB]))))))))|refine T.skip ?_|refine T.exit ?_|refine T.condT rfl ?_|refine T.condF rfl ?_|refine T.cond rfl (fun hc=>?_) (fun hc=>?_)|refine T.ret ?_|simp only [ThenA,InBlock,reduceIte,Nat.reduceEqDiff]|((repeat ((fail_if_success (refine hK _ ?_));clear hK K));refine hK _ ?_;clear hK K))
      all_goals (refine FinA.ret (.inr rfl) Try.results48 ?_;simp only [ares,aresL,ares1,simprocAttr,implies_true,amz,tys,];first|(simp [addB,hno',hst,cnt1, *];done)|(simp at hc;simp [addB,hno',hst,cnt1,hc, *];done))
    | nil =>
      have hst:stepB s e=if channelB e.kind=true then transB s e else otherB s e:=by simp [stepB,hnx]
      have hd:decide ((0:Int) < ((0:Nat):Int))=false:=by simp
      have ht:=trans_ok s e hs.c
      have ho:=other_ok s e hs.l hs.d
      simp only [rsA,rsC,List.map_cons,List.map_nil,evA,evC,hnx] at ht ho
      simp only [rsA,rsC,List.map_cons,List.map_nil,evA,evC]
      refine PureC.of Try.func48 rfl 59 rfl (by decide) (by simp [AV.okB]) ?_
      repeat' (first|refine T.seqK fun K hK=>?_|refine T.block ?_|(refine T.reg (by kernel_rfl) fun K' hK'=>?_;simp only [startSt,frOf,List.map_cons,List.map_nil];(repeat' (first|(with_reducible refine WL.fin ?_;refine hK' _ ?_;clear hK' K')|((with_reducible refine WL.step fun K2 hK2=>?_);simp only [simprocAttr,implies_true,amz,tys,a1,a2,a3,hd,hnx,rsA,rsC,List.length_nil,List.map_nil];(repeat' (first|with_reducible (first|(refine hK2 _ ?_;clear hK2 K2)|refine And.intro ?_ ?_|intro hb)|((first|(with_reducible apply callArmO)|(with_reducible apply callArm));case h=>exact CallV.plain (Ent.of Try.func62 (by kernel_rfl) rfl) (validR_ok e) (by simp [AV.okB]))|((first|(with_reducible apply callArmO)|(with_reducible apply callArm));case h=>exact CallV.plain (Ent.of Try.func64 (by kernel_rfl) rfl) (channelR_ok e.kind) (by simp [AV.okB]))|((first|(with_reducible apply callArmO)|(with_reducible apply callArm));case h=>exact CallV.plain (Ent.of Try.func65 (by kernel_rfl) rfl) (ht) (by simp [AV.okB]))|((first|(with_reducible apply callArmO)|(with_reducible apply callArm));case h=>exact CallV.plain (Ent.of Try.func66 (by kernel_rfl) rfl) (ho) (by simp [AV.okB]))))))))|refine T.skip ?_|refine T.exit ?_|refine T.condT rfl ?_|refine T.condF rfl ?_|refine T.cond rfl (fun hc=>?_) (fun hc=>?_)|refine T.ret ?_|simp only [ThenA,InBlock,reduceIte,Nat.reduceEqDiff]|((repeat ((fail_if_success (refine hK _ ?_));clear hK K));refine hK _ ?_;clear hK K))
      all_goals (refine FinA.ret (.inr rfl) Try.results48 ?_;simp only [ares,aresL,ares1,simprocAttr,implies_true,amz,tys,];first|(simp [addB,hno',hst,cnt1, *];done)|(simp at hc;simp [addB,hno',hst,cnt1,hc, *];done))
end Go.Proofs.Ytnckehomadnhoaa
