/- Texts Qa, Qk, Ra, Ql, Qn, Qv, Bb, Qw. -/
import Derived.OpenShut
import Derived.Test.YtnckehomadnhoaaZ08
namespace Go.Proofs.Ytnckehomadnhoaa
open Go.RowKit Go.Sort Go.Maps
set_option linter.unusedSimpArgs false
set_option linter.unusedVariables false
theorem rowQ_at {r:List (Nat × Nat)} {k:Nat} {x:Nat × Nat} (h:r[k]? = some x):(rowQ r)[k]? = some (raC x):=by
  unfold rowQ;rw [List.getElem?_map,h];rfl
end Go.Proofs.Ytnckehomadnhoaa
namespace Go.Proofs.Ytnckehomadnhoaa
open Go.RowKit Go.Sort
set_option linter.unusedSimpArgs false
set_option linter.unusedVariables false
theorem racesR_len {l:List Ev} (hl:l.length ≤ 100000):(racesR l).length ≤ 1000000000000:=by
  have h1:=prU_len (racR l) (fun j=>j) l.length (fun _=>Nat.le_succ _) l.length (Nat.le_refl _)
  have h2:l.length * l.length ≤ 100000 * 100000:=Nat.mul_le_mul hl hl
  unfold racesR
  split
  · omega
  · simp
end Go.Proofs.Ytnckehomadnhoaa
namespace Go.Proofs.Ytnckehomadnhoaa
open Go.RowKit Go.Sort Go.ChangeShapes Go.WideShapes Go.ChangeAt
set_option maxRecDepth 100000
variable {H:Type} {enc:TypeId × Value→H} {W:World} {base:Nat} {spare:Nat→Bool} {held:Bool}
theorem has_u8 {n:Int} (h:IntKind.u8.has n) : 0≤n∧n < 256:=by
  simp only [IntKind.has,IntKind.min,IntKind.max,IntKind.bits,IntKind.signed] at h
  simp at h;omega
theorem open_u8 {r:Reach} {v:Value} (hval:Value.okWide Try.prog W r base 5 v) : ∃ x:Nat,x < 256∧v = .int .u8 (x:Int):=by
  unfold Value.okWide at hval
  rw [show Try.prog.underlying 5=some (.int .u8) by kernel_rfl] at hval
  cases v <;> simp [Cell.okWide,Cell.ok,show Try.prog.underlying 5=some (.int .u8) by kernel_rfl] at hval
  rename_i k n
  obtain ⟨rfl,h⟩:=hval
  have hh:=has_u8 h
  exact ⟨n.toNat,by omega,by rw [show ((n.toNat:Nat):Int)=n by omega]⟩
end Go.Proofs.Ytnckehomadnhoaa
namespace Go.Proofs.Ytnckehomadnhoaa
open Go.RowKit Go.Sort
set_option linter.unusedSimpArgs false
set_option linter.unusedVariables false
theorem bef_nat {l:List Ev} (hv:(checkB l).2=true) {i j:Nat} (hi:i < l.length) (hj:j < l.length):befO l i j=hbB l j i:=by
  rw [bef_eq]
  unfold befR
  have d3:decide ((l.length:Int)≤(i:Int))=false:=by simp;omega
  have d4:decide ((l.length:Int)≤(j:Int))=false:=by simp;omega
  rw [hv,d3,d4]
  simp
end Go.Proofs.Ytnckehomadnhoaa
namespace Go.Proofs.Ytnckehomadnhoaa
set_option linter.unusedSimpArgs false
set_option linter.unusedVariables false
theorem hb_prog {l:List Ev} : ∀ (d:Nat) {i j:Nat} {x y:Ev},j - i≤d→i < j→l[i]? = some x→l[j]? = some y→x.g=y.g→hbB l j i=true:=by
  intro d
  induction d with
  | zero=>intro i j x y h1 h2;omega
  | succ d ih =>
    intro i j x y h1 h2 hx hy hg
    cases hp:((l.take j).drop (i + 1)).any (fun e=>e.g == x.g) with
    | false =>
      refine hb_imm h2 ?_
      rw [immL_at hx hy,immB_iff hx hy]
      refine .inl ?_
      unfold progB
      rw [hp]
      simp [hg]
    | true =>
      obtain ⟨e,he,hge⟩:=List.any_eq_true.1 hp
      obtain ⟨k,hk,rfl⟩:=List.mem_iff_getElem.1 he
      have hk2:k < j - (i + 1):=by
        rw [List.length_drop,List.length_take] at hk
        omega
      have hjl:=(List.getElem?_eq_some_iff.1 hy).1
      have hz:l[i + 1 + k]? = some ((l.take j).drop (i + 1))[k]:=by
        rw [List.getElem_drop,List.getElem_take,List.getElem?_eq_getElem (by omega)]
      have hge' : ((l.take j).drop (i + 1))[k].g=x.g:=by simpa using hge
      exact hb_trans _ (ih (i:=i + 1 + k) (j:=j) (by omega) (by omega) hz hy (hge'.trans hg)) (ih (i:=i) (j:=i + 1 + k) (by omega) (by omega) hx hz hge'.symm)
end Go.Proofs.Ytnckehomadnhoaa
namespace Go.Proofs.Ytnckehomadnhoaa
set_option linter.unusedSimpArgs false
set_option linter.unusedVariables false
def goE:Ev:=⟨0,14,0,0,1,0,0,0,0⟩
def blkE (g o f:Int):List Ev := [⟨g,6,0,1000,0,0,0,0,0⟩,⟨g,2,o,f,0,0,0,0,0⟩,⟨g,7,0,1000,0,0,0,0,0⟩]
def keepG (g:Int) (e:Ev):Bool:=(e.kind == 1 || e.kind == 2) && decide (0≤e.g) && decide (e.g≤g)
def mkL (l:List Ev) (o f:Int):List Ev:=((goE :: blkE 0 o f) ++ l.filter (keepG 0)) ++ (blkE 1 o f ++ l.filter (keepG 1))
def secQ (l:List Ev):Nat := 4 + (l.filter (keepG 0)).length
def isLk (e:Ev):Bool:=(e.g == 1) && (e.kind == 6)
theorem mk_split (l:List Ev) (o f:Int):mkL l o f=((goE :: blkE 0 o f) ++ l.filter (keepG 0)) ++ ⟨1,6,0,1000,0,0,0,0,0⟩ :: (⟨1,2,o,f,0,0,0,0,0⟩ :: ⟨1,7,0,1000,0,0,0,0,0⟩ :: l.filter (keepG 1)):=rfl
theorem mk_pre_len (l:List Ev) (o f:Int):((goE :: blkE 0 o f) ++ l.filter (keepG 0)).length=secQ l:=by
  simp only [blkE,secQ,List.length_append,List.length_cons,List.length_nil]
theorem keep_lk {g:Int} {e:Ev} (h:keepG g e=true):isLk e=false:=by
  unfold keepG at h
  unfold isLk
  simp only [Bool.and_eq_true,Bool.or_eq_true,beq_iff_eq] at h
  have:(e.kind == 6)=false:=by rw [beq_eq_false_iff_ne];omega
  rw [this];simp
theorem mk_at (l:List Ev) (o f:Int) {i:Nat} {e:Ev} (h:(mkL l o f)[i]? = some e):isLk e=(i == secQ l):=by
  rw [mk_split] at h
  have hl:=mk_pre_len l o f
  have hA : ∀ e ∈ ((goE :: blkE 0 o f) ++ l.filter (keepG 0)),isLk e=false:=fun e he=>by
    rcases List.mem_append.1 he with he|he
    · simp only [blkE,goE,List.mem_cons,List.not_mem_nil,or_false] at he
      rcases he with rfl|rfl|rfl|rfl <;> rfl
    · exact keep_lk (List.mem_filter.1 he).2
  generalize ((goE :: blkE 0 o f) ++ l.filter (keepG 0))=A at h hl hA
  by_cases h1:i < A.length
  · rw [List.getElem?_append_left h1] at h
    rw [hA e (List.mem_of_getElem? h)]
    symm
    rw [beq_eq_false_iff_ne];omega
  · rw [List.getElem?_append_right (by omega)] at h
    by_cases h2:i=A.length
    · subst h2
      rw [Nat.sub_self] at h
      simp only [List.getElem?_cons_zero,Option.some.injEq] at h
      subst h
      rw [hl];simp [isLk]
    · obtain ⟨d,hd⟩ : ∃ d,i - A.length=d + 1:=⟨i - A.length - 1,by omega⟩
      rw [hd,List.getElem?_cons_succ] at h
      have hm:=List.mem_of_getElem? h
      have:isLk e=false:=by
        simp only [List.mem_cons] at hm
        rcases hm with rfl|rfl|hm
        · rfl
        · rfl
        · exact keep_lk (List.mem_filter.1 hm).2
      rw [this]
      symm
      rw [beq_eq_false_iff_ne];omega
theorem mk_len (l:List Ev) (o f:Int):(mkL l o f).length=secQ l + 3 + (l.filter (keepG 1)).length:=by
  rw [mk_split,List.length_append,mk_pre_len]
  simp only [List.length_cons]
  omega
theorem mk_small {l:List Ev} (o f:Int) (hl:l.length ≤ 16):(mkL l o f).length ≤ 40:=by
  rw [mk_len]
  have h1:=List.length_filter_le (keepG 0) l
  have h2:=List.length_filter_le (keepG 1) l
  unfold secQ
  omega
theorem mk_hb (l:List Ev) (o f:Int):hbB (mkL l o f) (secQ l + 1) 2=true:=by
  have hl:=mk_pre_len l o f
  have h2:(mkL l o f)[2]? = some ⟨0,2,o,f,0,0,0,0,0⟩:=rfl
  have h3:(mkL l o f)[3]? = some ⟨0,7,0,1000,0,0,0,0,0⟩:=rfl
  have hq:(mkL l o f)[secQ l]? = some ⟨1,6,0,1000,0,0,0,0,0⟩:=by
    rw [mk_split,List.getElem?_append_right (by omega),hl];simp
  have hq1:(mkL l o f)[secQ l + 1]? = some ⟨1,2,o,f,0,0,0,0,0⟩:=by
    rw [mk_split,List.getElem?_append_right (by omega),hl];simp
  have hs : 4≤secQ l:=by unfold secQ;omega
  have e1:=hb_prog 10 (by omega) (by omega) h2 h3 rfl
  have e3:=hb_prog 10 (by omega) (by omega) hq hq1 rfl
  have e2:hbB (mkL l o f) (secQ l) 3=true:=by
    refine hb_imm (by omega) ?_
    rw [immL_at h3 hq]
    unfold immB
    split
    · rfl
    · rfl
  exact hb_trans _ e3 (hb_trans _ e2 e1)
theorem mk_races (l:List Ev) (o f:Int):(2,secQ l + 1) ∉ racesO (mkL l o f):=by
  rw [races_eq]
  unfold racesR
  split
  · intro h
    have : ∀ n,(2,secQ l + 1) ∈ prU (racR (mkL l o f)) (fun j=>j) n→racR (mkL l o f) 2 (secQ l + 1)=true:=by
      intro n
      induction n with
      | zero=>intro h;simp [prU] at h
      | succ n ih =>
        intro h
        rw [prU] at h
        rcases List.mem_append.1 h with h|h
        · exact ih h
        · unfold prJ rgF at h
          obtain ⟨i,hi,he⟩:=List.mem_map.1 h
          simp only [Prod.mk.injEq] at he
          obtain ⟨rfl,rfl⟩:=he
          exact (List.mem_filter.1 hi).2
    have:=this _ h
    unfold racR hbM at this
    rw [mk_hb] at this
    simp at this
  · simp
end Go.Proofs.Ytnckehomadnhoaa
namespace Go.Proofs.Ytnckehomadnhoaa
open Go.RowKit Go.Sort
section
variable {P:Program} {ops:Array Oper} {o:Oper} {s:ASt}
theorem op_buildSO (t:TypeId) (len:Nat) (parts:Array (Nat × Operand)) (e0 n0 bytes:Nat) (rows:List (List PV)) (h:o.op = .buildSlice t len parts) (hl:abuildS P s t len parts.toList=some (.p (.seq n0 rows))) (ht:elemTyB P t=some (e0,n0,bytes)) (hd : ∀ t,o.dst=some t→t < s.n):OpEff P o s ((s.add (.row e0 n0 rows)).put o.dst (.own s.N)):=fun L loc a w hr=>by
  obtain ⟨i0,z0,hu0,hi0,_⟩:=(elemTy_of ht).h
  have hev : ∀ (j i:Nat) (x:AV) (i' : Nat) (v:Value),(parts.toList.map fun p=>(p.1,s.ev p.2))[j]? = some (i,x)→(parts.map fun (i,x)=>(i,a.eval x)).toList[j]? = some (i',v)→i=i' ∧ AR s.N (Dm L loc) loc w x v:=fun j i x i' v h1 h2=>by
    simp only [Array.toList_map,List.getElem?_map,Option.map_eq_some_iff] at h1 h2
    obtain ⟨p,hp,e1⟩:=h1
    obtain ⟨p',hp',e2⟩:=h2
    rw [hp] at hp'
    cases hp'
    cases e1
    cases e2
    exact ⟨rfl,hr.ev p.2 (fun _ _=>trivial)⟩
  have hlen:(parts.map fun (i,x)=>(i,a.eval x)).toList.length=(parts.toList.map fun p=>(p.1,s.ev p.2)).length:=by simp
  unfold abuildS at hl
  split at hl
  · rename_i e hu
    split at hl
    · rename_i zs n hz hs
      split at hl
      · rename_i hcond
        obtain ⟨hzl,hn0,hmax,hml⟩:=hcond
        split at hl
        · rename_i cs hf
          obtain ⟨xs,hxs,hE⟩:=Option.map_eq_some_iff.1 hl
          rw [hu0] at hu
          cases hu
          cases hE
          obtain ⟨i,z,hi,hiz,hzc,hone⟩:=tyZero_spec hz
          have hzsz:z.cells.size=n0:=by rw [← hzl,← hzc];simp
          have hz0:Cs s.N (Dm L loc) loc w ((List.range (len * n0)).map fun j => .p (.val (zs.getD (j % n0) undef))) ((Array.range (len * n0)).map fun j=>z.cells[j % z.cells.size]!):=by
            have e1 : ∀ j,z.cells[j % z.cells.size]! = zs.getD (j % n0) undef:=fun j=>by
              have:j % n0 < z.cells.size:=by rw [hzsz];exact Nat.mod_lt _ hn0
              rw [hzsz,getElem!_pos z.cells _ this,← hzc,List.getD_eq_getElem?_getD,Array.getElem?_toList,Array.getElem?_eq_getElem this]
              rfl
            have e2:(Array.range (len * n0)).map (fun j=>z.cells[j % z.cells.size]!)=((List.range (len * n0)).map fun j=>zs.getD (j % n0) undef).toArray:=by
              apply Array.ext'
              simp [e1]
            rw [e2]
            have:=Cs.zero s.N (Dm L loc) loc w (vs:=((List.range (len * n0)).map fun j=>zs.getD (j % n0) undef).toArray) (fun v hv=>by
              obtain ⟨j,_,rfl⟩:=List.mem_map.1 (show v ∈ (List.range (len * n0)).map (fun j=>zs.getD (j % n0) undef) from hv)
              have:j % n0 < zs.length:=by rw [hzl];exact Nat.mod_lt _ hn0
              rw [List.getD_eq_getElem?_getD,List.getElem?_eq_getElem this]
              exact hone _ (List.getElem_mem this))
            simpa [List.map_map,Function.comp_def] using this
          obtain ⟨us',h1,h2⟩:=fill_ok hlen hev hz0 hf
          obtain ⟨i',hi',his⟩:=Option.map_eq_some_iff.1 hs
          rw [hi] at hi'
          cases hi'
          have hrun:(Instr.buildSlice t len (parts.map fun (i,x)=>(i,a.eval x))).run P w = .ok (.slice (some ⟨w.heap.size,0,none⟩) len len) (w.alloc (.cells us' e0)):=by
            have hm : ¬ (len * n0 > 2 ^ 24):=by omega
            have hnr : ∀ c:Array Value,(newRow e0 c).run P w = .ok ⟨w.heap.size,0,none⟩ (w.alloc (.cells c e0)):=fun c=>by simp [newRow]
            unfold Instr.buildSlice
            by_cases h0:len * n0=0
            · have e3:(Array.range (len * n0)).map (fun j=>z.cells[j % z.cells.size]!)=(Array.range (len * n0)).map (fun j=>(#[] : Array Value)[j % (#[] : Array Value).size]!):=by rw [h0];apply Array.ext';simp
              rw [e3] at h1
              simp only [Sem.run_bind,run_underlying hu0,Result.andThen_ok,sizeOf,typeInfo,run_program,hi,his,Sem.run_pure,if_neg hm,if_pos h0,h1,hnr]
            · simp only [Sem.run_bind,run_underlying hu0,Result.andThen_ok,sizeOf,typeInfo,run_program,hi,his,Sem.run_pure,if_neg hm,if_neg h0,zeroValue,hiz,h1,hnr]
          have hbl:Blw w.heap.size w (w.alloc (.cells us' e0)):=(Blw.refl _ _).alloc (Nat.le_refl _) _
          have hcs:=pureL_spec hxs
          have hcl:cs.length=len * n0:=by
            have : ∀ (ps:List (Nat × AV)) (c c' : List AV),afill (fun i=>some (i * n0,n0)) c ps=some c' → c'.length=c.length:=by
              intro ps
              induction ps with
              | nil=>intro c c' h;cases h;rfl
              | cons p r ih =>
                intro c c' h
                obtain ⟨k,x⟩:=p
                simp only [afill] at h
                split at h
                · split at h
                  · rename_i hc
                    rw [ih _ _ h,asplice_len hc.2]
                  · cases h
                · cases h
            rw [this _ _ _ hf];simp
          have hxl:xs.length=len * n0:=by rw [← hcl,hcs];simp
          have hub : ∀ b,blkOf (.slice (some ⟨w.heap.size,0,none⟩) len len)=some b→w.heap.size≤b:=fun b e=>by cases e;exact Nat.le_refl _
          have hus:us'.toList.length=len * n0:=by rw [Array.length_toList,h2.1,hcl]
          have ho:OR (s.N + 1) (Dm L (setLoc loc s.N (.slice (some ⟨w.heap.size,0,none⟩) len len))) (setLoc loc s.N (.slice (some ⟨w.heap.size,0,none⟩) len len)) (w.alloc (.cells us' e0)) (.slice (some ⟨w.heap.size,0,none⟩) len len) (.row e0 n0 (chunks n0 len xs)):=by
            refine ⟨us'.toList,⟨by rw [hus,chunks_len],.inr ⟨w.heap.size,len,_,by rw [chunks_len],Nat.zero_le _,heap_alloc_at' w _ _ rfl,by rw [chunks_len];exact Nat.le_refl _,hml,by rw [← Array.length_toList,hus],?_⟩⟩,fun r hr'=>?_,fun k r j x hk hx=>?_,fun v hv=>?_⟩
            · rw [List.take_of_length_le (by rw [hus,chunks_len];exact Nat.le_refl _)]
            · obtain ⟨k,hk,rfl⟩:=List.mem_iff_getElem.1 hr'
              rw [chunks_len] at hk
              have e1:=chunks_get n0 len xs k _ (List.getElem?_eq_getElem (by rw [chunks_len];exact hk))
              rw [e1,List.length_take,List.length_drop,hxl]
              have:(k + 1) * n0≤len * n0:=Nat.mul_le_mul_right n0 hk
              rw [Nat.add_mul] at this
              omega
            · have e1:=chunks_get n0 len xs k _ hk
              rw [e1,List.getElem?_take] at hx
              split at hx
              · rw [List.getElem?_drop] at hx
                have hx' : cs[k * n0 + j]? = some (.p x):=by rw [hcs,List.getElem?_map,hx];rfl
                have h5:=h2.2.1 _ _ hx'
                have hlt:=(List.getElem?_eq_some_iff.1 hx').1
                rw [← h2.1] at hlt
                rw [Array.getD_eq_getD_getElem?,Array.getElem?_eq_getElem hlt] at h5
                refine ⟨us'[k * n0 + j],by rw [Array.getElem?_toList,Array.getElem?_eq_getElem hlt],?_⟩
                cases h5 with
                | p _ _ hp=>exact hp.mono (.of_below hbl) (fun k hk hd=>(dm_set hd).resolve_left fun e=>by have:=hub k e;omega)
              · cases hx
            · obtain ⟨j,hj,rfl⟩:=List.mem_iff_getElem.1 hv
              simp only [Array.length_toList] at hj
              have:=h2.2.2 j hj
              rw [Array.getD_eq_getD_getElem?,Array.getElem?_eq_getElem hj] at this
              simpa using this
          unfold Oper.wp
          have he:(execOp a.eval o).run P w = .ok (.value (.slice (some ⟨w.heap.size,0,none⟩) len len)) (w.alloc (.cells us' e0)):=by
            simp only [execOp,h,Sem.run_bind,hrun,Result.andThen_ok,Sem.run_pure]
          rw [he]
          refine ⟨setLoc loc s.N (.slice (some ⟨w.heap.size,0,none⟩) len len),?_,.add hbl _ _ hub⟩
          refine (hr.add hbl _ (.row e0 n0 (chunks n0 len xs)) hub ho).put' hd (.own s.N _ (Nat.lt_succ_self _) rfl fun z hz=>?_)
          rw [setLoc_same] at hz;cases hz;rfl
        · cases hl
      · cases hl
    · cases hl
  · cases hl
end
theorem T.regO {F:Fence} [FOk F] {P:Program} {Q:Exit→ASt→Prop} {s:ASt} {id d1 d2:Nat} {o1 o2:Oper} {rest:List Oper} {av:AV} (t:TypeId) (len:Nat) (parts:Array (Nat × Operand)) (e0 n0 bytes:Nat) (rows:List (List PV)) (hd:noDefB (o1 :: o2 :: rest)=true) (g1:o1.guard=none) (g2:o2.guard=none) (e1:o1.dst=some d1) (e2:o2.dst=some d2) (l1:d1 < s.n) (l2:d2 < s.n)
    (h1:aop P s o1.op=some av) (h:o2.op = .buildSlice t len parts) (hl:abuildS P (s.put (some d1) av) t len parts.toList=some (.p (.seq n0 rows))) (ht:elemTyB P t=some (e0,n0,bytes))
    (hk : ∀ K:ASt→Prop,(∀ s,Q .normal s→K s)→WL P ((o1 :: o2 :: rest).map (·.dst)) K rest (((s.put (some d1) av).add (.row e0 n0 rows)).put (some d2) (.own s.N))):T F P (.region id (o1 :: o2 :: rest).toArray false) Q s:=by
  refine T.region hd ?_
  refine TL.val (by simp [Wants,g1]) av (aop_sound h1) (fun t e=>by rw [e1] at e;cases e;exact l1) ?_
  rw [e1]
  refine TL.eff (by simp [Wants,g2]) (op_buildSO t len parts e0 n0 bytes rows h hl ht (fun t e=>by rw [e2] at e;cases e;exact l2)) ?_
  rw [e2]
  refine WL.sound ?_
  have:=hk (NQ Q .normal) (fun s h=>⟨rfl,h⟩)
  have hN:(s.put (some d1) av).N=s.N:=rfl
  rw [hN]
  simpa using this
end Go.Proofs.Ytnckehomadnhoaa
namespace Go.Proofs.Ytnckehomadnhoaa
open Go.RowKit Go.Sort
set_option linter.unusedSimpArgs false
set_option linter.unusedVariables false
def mkG (l:List Ev) (o f:Int):Nat→List Ev
  | 0 => [goE]
  | g + 1=>mkG l o f g ++ (blkE g o f ++ l.filter (keepG g))
theorem mkG_two (l:List Ev) (o f:Int):mkG l o f 2=mkL l o f:=by
  simp [mkG,mkL,List.append_assoc]
theorem mkG_len {l:List Ev} (o f:Int) (hl:l.length ≤ 16) : ∀ g,g ≤ 2→(mkG l o f g).length ≤ 1 + 20 * g
  | 0,_=>by simp [mkG]
  | g + 1,h=>by
    have:=mkG_len o f hl g (by omega)
    have h2:=List.length_filter_le (keepG g) l
    rw [mkG,List.length_append,List.length_append]
    simp only [blkE,List.length_cons,List.length_nil]
    omega
def secI (q i:Nat):Int:=if q < i then ((q + 1:Nat):Int) else -1
set_option maxHeartbeats 16000000 in
set_option maxRecDepth 100000 in
theorem lawLocks_ok (l:List Ev) (ob off:Nat) (h1:ob < 256) (h2:off < 256):PureC Try.prog 11 [.p (.seq 9 (l.map evC)),.p (.val (.int .u8 (ob:Int))),.p (.val (.int .u8 (off:Int)))] (.bool true):=by
  have hw:=awake_ok
  have hm1 : 1≤maxLen:=by unfold maxLen;omega
  have hm3 : 3≤maxLen:=by unfold maxLen;omega
  have hlm:(l.map evC).length=l.length:=by simp
  have hxo:IntKind.i64.wrap (ob:Int)=(ob:Int):=wrap_ok (by omega) (by omega)
  have hxf:IntKind.i64.wrap (off:Int)=(off:Int):=wrap_ok (by omega) (by omega)
  by_cases hn:l.length ≤ 16
  case neg =>
    have hg:decide ((16:Int) < (l.length:Int))=true:=by simp;omega
    refine PureC.of Try.func11 rfl 137 rfl (by decide) (by simp [AV.okB]) ?_
    repeat' (first|refine T.seqK fun K hK=>?_|refine T.block ?_|(refine T.reg (by kernel_rfl) fun K' hK'=>?_;simp only [startSt,frOf,List.map_cons,List.map_nil];(repeat' (first|(with_reducible refine WL.fin ?_;refine hK' _ ?_;clear hK' K')|((with_reducible refine WL.step fun K2 hK2=>?_);simp only [simprocAttr,implies_true,amz,tys,hlm,hg];(repeat' (first|with_reducible (first|(refine hK2 _ ?_;clear hK2 K2)|refine And.intro ?_ ?_|intro hb)|((first|(with_reducible apply callArmO)|(with_reducible apply callArm));case h=>exact CallV.plain (Ent.of Try.func12 (by kernel_rfl) rfl) (hw) (by simp [AV.okB]))))))))|refine T.skip ?_|refine T.exit ?_|refine T.condT rfl ?_|refine T.condF rfl ?_|refine T.cond rfl (fun hc=>?_) (fun hc=>?_)|refine T.ret ?_|simp only [ThenA,InBlock,reduceIte,Nat.reduceEqDiff]|((repeat ((fail_if_success (refine hK _ ?_));clear hK K));refine hK _ ?_;clear hK K))
    all_goals (refine FinA.ret (.inr rfl) Try.results11 ?_;simp only [ares,aresL,ares1,simprocAttr,implies_true,amz,tys,])
  have hg:decide ((16:Int) < (l.length:Int))=false:=by simp;omega
  refine PureC.of Try.func11 rfl 137 rfl (by decide) (by simp [AV.okB]) ?_
  repeat' (first|refine T.seqK fun K hK=>?_|refine T.block ?_|refine T.skip ?_|refine T.exit ?_|refine T.condT rfl ?_|refine T.condF rfl ?_|refine T.cond rfl (fun hc=>?_) (fun hc=>?_)|refine T.ret ?_|simp only [ThenA,InBlock,reduceIte,Nat.reduceEqDiff]|((repeat ((fail_if_success (refine hK _ ?_));clear hK K));refine hK _ ?_;clear hK K))
  (refine T.reg (by kernel_rfl) fun K' hK'=>?_;simp only [startSt,frOf,List.map_cons,List.map_nil];(repeat' (first|(with_reducible refine WL.fin ?_;refine hK' _ ?_;clear hK' K')|((with_reducible refine WL.step fun K2 hK2=>?_);simp only [simprocAttr,implies_true,amz,tys];(repeat' (first|with_reducible (first|(refine hK2 _ ?_;clear hK2 K2)|refine And.intro ?_ ?_|intro hb) )))));all_goals ((try simp only [ThenA,InBlock,reduceIte,Nat.reduceEqDiff]);(try ((repeat ((fail_if_success (refine hK _ ?_));clear hK K));refine hK _ ?_;clear hK K))))
  repeat' (first|refine T.seqK fun K hK=>?_|refine T.block ?_|refine T.skip ?_|refine T.exit ?_|refine T.condT rfl ?_|refine T.condF rfl ?_|refine T.cond rfl (fun hc=>?_) (fun hc=>?_)|refine T.ret ?_|simp only [ThenA,InBlock,reduceIte,Nat.reduceEqDiff]|((repeat ((fail_if_success (refine hK _ ?_));clear hK K));refine hK _ ?_;clear hK K))
  (refine T.reg (by kernel_rfl) fun K' hK'=>?_;simp only [startSt,frOf,List.map_cons,List.map_nil];(repeat' (first|(with_reducible refine WL.fin ?_;refine hK' _ ?_;clear hK' K')|((with_reducible refine WL.step fun K2 hK2=>?_);simp only [simprocAttr,implies_true,amz,tys,hlm];(repeat' (first|with_reducible (first|(refine hK2 _ ?_;clear hK2 K2)|refine And.intro ?_ ?_|intro hb)|((first|(with_reducible apply callArmO)|(with_reducible apply callArm));case h=>exact CallV.plain (Ent.of Try.func12 (by kernel_rfl) rfl) (hw) (by simp [AV.okB])))))));all_goals ((try simp only [ThenA,InBlock,reduceIte,Nat.reduceEqDiff]);(try ((repeat ((fail_if_success (refine hK _ ?_));clear hK K));refine hK _ ?_;clear hK K))))
  repeat' (first|refine T.seqK fun K hK=>?_|refine T.block ?_|refine T.skip ?_|refine T.exit ?_|refine T.condT rfl ?_|refine T.condF rfl ?_|refine T.cond rfl (fun hc=>?_) (fun hc=>?_)|refine T.ret ?_|simp only [ThenA,InBlock,reduceIte,Nat.reduceEqDiff]|((repeat ((fail_if_success (refine hK _ ?_));clear hK K));refine hK _ ?_;clear hK K))
  (refine T.reg (by kernel_rfl) fun K' hK'=>?_;simp only [startSt,frOf,List.map_cons,List.map_nil];(repeat' (first|(with_reducible refine WL.fin ?_;refine hK' _ ?_;clear hK' K')|((with_reducible refine WL.step fun K2 hK2=>?_);simp only [simprocAttr,implies_true,amz,tys,hlm,hg];(repeat' (first|with_reducible (first|(refine hK2 _ ?_;clear hK2 K2)|refine And.intro ?_ ?_|intro hb) )))));all_goals ((try simp only [ThenA,InBlock,reduceIte,Nat.reduceEqDiff]);(try ((repeat ((fail_if_success (refine hK _ ?_));clear hK K));refine hK _ ?_;clear hK K))))
  repeat' (first|refine T.seqK fun K hK=>?_|refine T.block ?_|refine T.skip ?_|refine T.exit ?_|refine T.condT rfl ?_|refine T.condF rfl ?_|refine T.cond rfl (fun hc=>?_) (fun hc=>?_)|refine T.ret ?_|simp only [ThenA,InBlock,reduceIte,Nat.reduceEqDiff]|((repeat ((fail_if_success (refine hK _ ?_));clear hK K));refine hK _ ?_;clear hK K))
  refine T.regO (d1 := 19) (d2 := 20) (av := .agg ((evC goE).map .p)) 22 1 #[(0,.tmp 19)] 44 9 72 [evC goE] (by kernel_rfl) rfl rfl rfl rfl (show 19 < 137 by decide) (show 20 < 137 by decide) ?_ rfl ?_ ?_ fun K' hK'=>?_
  · simp only [goE,evC,List.map_cons,List.map_nil,simprocAttr,implies_true,amz,tys]
  · simp only [goE,evC,List.map_cons,List.map_nil,hm1,simprocAttr,implies_true,amz,tys]
  · simp only [tys]
  simp only [startSt,frOf,List.map_cons,List.map_nil,ASt.add,put_some,Nat.reduceAdd]
  (repeat' (first|(with_reducible refine WL.fin ?_;refine hK' _ ?_;clear hK' K')|(with_reducible refine WD.fin ?_)|((with_reducible first|refine WL.step fun K2 hK2=>?_|refine WD.step fun K2 hK2=>?_);simp only [simprocAttr,implies_true,amz,tys];(repeat' (first|with_reducible (first|(refine hK2 _ ?_;clear hK2 K2)|refine And.intro ?_ ?_|intro hb) )))))
  all_goals ((try simp only [ThenA,InBlock,reduceIte,Nat.reduceEqDiff]);(try ((repeat ((fail_if_success (refine hK _ ?_));clear hK K));refine hK _ ?_;clear hK K)))
  repeat' (first|refine T.seqK fun K hK=>?_|refine T.block ?_|refine T.skip ?_|refine T.exit ?_|refine T.condT rfl ?_|refine T.condF rfl ?_|refine T.cond rfl (fun hc=>?_) (fun hc=>?_)|refine T.ret ?_|simp only [ThenA,InBlock,reduceIte,Nat.reduceEqDiff]|((repeat ((fail_if_success (refine hK _ ?_));clear hK K));refine hK _ ?_;clear hK K))
  (refine T.reg (by kernel_rfl) fun K' hK'=>?_;simp only [startSt,frOf,List.map_cons,List.map_nil];(repeat' (first|(with_reducible refine WL.fin ?_;refine hK' _ ?_;clear hK' K')|((with_reducible refine WL.step fun K2 hK2=>?_);simp only [simprocAttr,implies_true,amz,tys];(repeat' (first|with_reducible (first|(refine hK2 _ ?_;clear hK2 K2)|refine And.intro ?_ ?_|intro hb) )))));all_goals ((try simp only [ThenA,InBlock,reduceIte,Nat.reduceEqDiff]);(try ((repeat ((fail_if_success (refine hK _ ?_));clear hK K));refine hK _ ?_;clear hK K))))
  repeat' (first|refine T.seqK fun K hK=>?_|refine T.block ?_|refine T.skip ?_|refine T.exit ?_|refine T.condT rfl ?_|refine T.condF rfl ?_|refine T.cond rfl (fun hc=>?_) (fun hc=>?_)|refine T.ret ?_|simp only [ThenA,InBlock,reduceIte,Nat.reduceEqDiff]|((repeat ((fail_if_success (refine hK _ ?_));clear hK K));refine hK _ ?_;clear hK K))
  refine T.loopK (fun g:Nat=>⟨[(0,.p (.seq 9 (l.map evC))),(1,.p (.val (.int .u8 (ob:Int)))),(2,.p (.val (.int .u8 (off:Int)))),(7,.own 0),(8,.int g)],[(0,.row 44 9 ((mkG l ob off g).map evC))],137,1⟩) (fun g=>g ≤ 2) (fun g => 2 - g) 0 (Nat.zero_le _) (by refine Weak.of' rfl ?_;simp only [wks,reduceIte,Nat.reduceEqDiff,ASt.okB,AV.okB,Nat.reduceLT,implies_true,Int.natCast_zero,mkG,List.map_cons,List.map_nil,goE,evC]) ?_
  intro g hg2 KL hKL
  have hgl:=mkG_len ob off hn g hg2
  have hgm:((mkG l ob off g).map evC).length=(mkG l ob off g).length:=by simp
  by_cases hgn:g < 2
  · have hd:decide ((g:Int) < 2)=true:=by simp;omega
    have hb3:(mkG l ob off g).length + 3≤maxLen:=by unfold maxLen;omega
    have hb4:((mkG l ob off g).length + 3) * 72 ≤ 140737488355328:=by omega
    have hblk:(mkG l ob off g).map evC ++ [[PV.val (.int .i64 (g:Int)),.val (.int .i64 6),.val (.int .i64 0),.val (.int .i64 1000),.val (.int .i64 0),.val (.int .i64 0),.val (.int .i64 0),.val (.int .i64 0),.val (.int .i64 0)],[.val (.int .i64 (g:Int)),.val (.int .i64 2),.val (.int .i64 ob),.val (.int .i64 off),.val (.int .i64 0),.val (.int .i64 0),.val (.int .i64 0),.val (.int .i64 0),.val (.int .i64 0)],[.val (.int .i64 (g:Int)),.val (.int .i64 7),.val (.int .i64 0),.val (.int .i64 1000),.val (.int .i64 0),.val (.int .i64 0),.val (.int .i64 0),.val (.int .i64 0),.val (.int .i64 0)]]=((mkG l ob off g ++ blkE g ob off) ++ (l.take 0).filter (keepG g)).map evC:=by
      simp [blkE,evC]
    repeat' (first|refine T.seqK fun K hK=>?_|refine T.block ?_|refine T.skip ?_|refine T.exit ?_|refine T.condT rfl ?_|refine T.condF rfl ?_|refine T.cond rfl (fun hc=>?_) (fun hc=>?_)|refine T.ret ?_|simp only [ThenA,InBlock,reduceIte,Nat.reduceEqDiff]|((repeat ((fail_if_success (refine hK _ ?_));clear hK K));refine hK _ ?_;clear hK K))
    (refine T.reg (by kernel_rfl) fun K' hK'=>?_;simp only [startSt,frOf,List.map_cons,List.map_nil];(repeat' (first|(with_reducible refine WL.fin ?_;refine hK' _ ?_;clear hK' K')|((with_reducible refine WL.step fun K2 hK2=>?_);simp only [simprocAttr,implies_true,amz,tys,hd];(repeat' (first|with_reducible (first|(refine hK2 _ ?_;clear hK2 K2)|refine And.intro ?_ ?_|intro hb) )))));all_goals ((try simp only [ThenA,InBlock,reduceIte,Nat.reduceEqDiff]);(try ((repeat ((fail_if_success (refine hK _ ?_));clear hK K));refine hK _ ?_;clear hK K))))
    repeat' (first|refine T.seqK fun K hK=>?_|refine T.block ?_|refine T.skip ?_|refine T.exit ?_|refine T.condT rfl ?_|refine T.condF rfl ?_|refine T.cond rfl (fun hc=>?_) (fun hc=>?_)|refine T.ret ?_|simp only [ThenA,InBlock,reduceIte,Nat.reduceEqDiff]|((repeat ((fail_if_success (refine hK _ ?_));clear hK K));refine hK _ ?_;clear hK K))
    (refine T.reg (by kernel_rfl) fun K' hK'=>?_;simp only [startSt,frOf,List.map_cons,List.map_nil];(repeat' (first|(with_reducible refine WL.fin ?_;refine hK' _ ?_;clear hK' K')|((with_reducible refine WL.step fun K2 hK2=>?_);simp only [simprocAttr,implies_true,amz,tys,hxo,hxf,Option.isSome_some,hm3,hgm,hb3,hb4,List.length_cons,List.length_nil,Nat.zero_add,hblk];(repeat' (first|with_reducible (first|(refine hK2 _ ?_;clear hK2 K2)|refine And.intro ?_ ?_|intro hb) )))));all_goals ((try simp only [ThenA,InBlock,reduceIte,Nat.reduceEqDiff]);(try ((repeat ((fail_if_success (refine hK _ ?_));clear hK K));refine hK _ ?_;clear hK K))))
    clear hblk hb3 hb4
    obtain ⟨M,hM⟩ : ∃ M,M=mkG l ob off g ++ blkE g ob off:=⟨_,rfl⟩
    have hMl:M.length ≤ 24:=by rw [hM,List.length_append];simp only [blkE,List.length_cons,List.length_nil];omega
    have hnx:mkG l ob off (g + 1)=M ++ l.filter (keepG g):=by rw [hM,List.append_assoc];rfl
    rw [← hM]
    repeat' (first|refine T.seqK fun K hK=>?_|refine T.block ?_|refine T.skip ?_|refine T.exit ?_|refine T.condT rfl ?_|refine T.condF rfl ?_|refine T.cond rfl (fun hc=>?_) (fun hc=>?_)|refine T.ret ?_|simp only [ThenA,InBlock,reduceIte,Nat.reduceEqDiff]|((repeat ((fail_if_success (refine hK _ ?_));clear hK K));refine hK _ ?_;clear hK K))
    (refine T.reg (by kernel_rfl) fun K' hK'=>?_;simp only [startSt,frOf,List.map_cons,List.map_nil];(repeat' (first|(with_reducible refine WL.fin ?_;refine hK' _ ?_;clear hK' K')|((with_reducible refine WL.step fun K2 hK2=>?_);simp only [simprocAttr,implies_true,amz,tys];(repeat' (first|with_reducible (first|(refine hK2 _ ?_;clear hK2 K2)|refine And.intro ?_ ?_|intro hb) )))));all_goals ((try simp only [ThenA,InBlock,reduceIte,Nat.reduceEqDiff]);(try ((repeat ((fail_if_success (refine hK _ ?_));clear hK K));refine hK _ ?_;clear hK K))))
    repeat' (first|refine T.seqK fun K hK=>?_|refine T.block ?_|refine T.skip ?_|refine T.exit ?_|refine T.condT rfl ?_|refine T.condF rfl ?_|refine T.cond rfl (fun hc=>?_) (fun hc=>?_)|refine T.ret ?_|simp only [ThenA,InBlock,reduceIte,Nat.reduceEqDiff]|((repeat ((fail_if_success (refine hK _ ?_));clear hK K));refine hK _ ?_;clear hK K))
    refine T.loopK (fun i:Nat=>⟨[(0,.p (.seq 9 (l.map evC))),(1,.p (.val (.int .u8 (ob:Int)))),(2,.p (.val (.int .u8 (off:Int)))),(7,.own 0),(8,.int g),(9,.int i)],[(0,.row 44 9 ((M ++ (l.take i).filter (keepG g)).map evC))],137,1⟩) (fun i=>i≤l.length) (fun i=>l.length - i) 0 (Nat.zero_le _) (by refine Weak.of' rfl ?_;simp only [wks,reduceIte,Nat.reduceEqDiff,ASt.okB,AV.okB,Nat.reduceLT,implies_true,Int.natCast_zero,List.take_zero]) ?_
    intro i hi KL2 hKL2
    by_cases hin:i < l.length
    · have hd2:decide ((i:Int) < (l.length:Int))=true:=by simpa using hin
      have hi0:(0:Int)≤(i:Int):=by omega
      obtain ⟨e,he⟩:=at_lt hin
      have hml:((M ++ (l.take i).filter (keepG g)).map evC).length ≤ 40:=by
        have:=List.length_filter_le (keepG g) (l.take i)
        have:=List.length_take_le i l
        simp only [List.length_map,List.length_append];omega
      have hst:(l.take (i + 1)).filter (keepG g)=(l.take i).filter (keepG g) ++ if keepG g e then [e] else []:=by
        rw [List.take_add_one,he,List.filter_append]
        simp only [Option.toList_some,List.filter_cons,List.filter_nil]
      have happ:(M ++ (l.take i).filter (keepG g)).map evC ++ [evC e]=(M ++ ((l.take i).filter (keepG g) ++ [e])).map evC:=by simp
      have heq:evC e = [.val (.int .i64 e.g),.val (.int .i64 e.kind),.val (.int .i64 e.obj),.val (.int .i64 e.off),.val (.int .i64 e.k),.val (.int .i64 e.n),.val (.int .i64 e.fn),.val (.int .i64 e.pc),.val (.int .i64 e.st)]:=rfl
      rw [heq] at happ
      have hb3:((M ++ (l.take i).filter (keepG g)).map evC).length + 1≤maxLen:=by unfold maxLen;omega
      have hb4:(((M ++ (l.take i).filter (keepG g)).map evC).length + 1) * 72 ≤ 140737488355328:=by omega
      obtain ⟨R,hR⟩ : ∃ R,R=(M ++ (l.take i).filter (keepG g)).map evC:=⟨_,rfl⟩
      rw [← hR] at hb3 hb4 happ ⊢
      cases c1:(e.kind == 1) <;> cases c2:(e.kind == 2) <;> cases c3:decide (0≤e.g) <;> cases c4:decide (e.g≤(g:Int))
      all_goals (have hk:keepG g e=(((e.kind == 1) || (e.kind == 2)) && decide (0≤e.g) && decide (e.g≤(g:Int))):=rfl;rw [c1,c2,c3,c4] at hk;simp only [Bool.or_false,Bool.or_true,Bool.false_or,Bool.or_self,Bool.and_false,Bool.false_and,Bool.and_self,Bool.and_true] at hk;rw [hk] at hst;simp only [if_true,Bool.false_eq_true,if_false,List.append_nil] at hst)
      all_goals (repeat' (first|refine T.seqK fun K hK=>?_|refine T.block ?_|(refine T.reg (by kernel_rfl) fun K' hK'=>?_;simp only [startSt,frOf,List.map_cons,List.map_nil];(repeat' (first|(with_reducible refine WL.fin ?_;refine hK' _ ?_;clear hK' K')|((with_reducible refine WL.step fun K2 hK2=>?_);simp only [simprocAttr,implies_true,amz,tys,hlm,hd2,hi0,Int.toNat_natCast,he,evC,c1,c2,c3,c4,hm1,hb3,hb4,List.length_cons,List.length_nil,Nat.zero_add,happ];(repeat' (first|with_reducible (first|(refine hK2 _ ?_;clear hK2 K2)|refine And.intro ?_ ?_|intro hb) ))))))|refine T.skip ?_|refine T.exit ?_|refine T.condT rfl ?_|refine T.condF rfl ?_|refine T.cond rfl (fun hc=>?_) (fun hc=>?_)|refine T.ret ?_|simp only [ThenA,InBlock,reduceIte,Nat.reduceEqDiff]|((repeat ((fail_if_success (refine hK _ ?_));clear hK K));refine hK _ ?_;clear hK K)))
      all_goals (refine hKL2 _ (i + 1) ?_ (by omega) (by omega);(first|rw [hst,← hR]|rw [hst]);refine Weak.of' rfl ?_;simp only [wks,reduceIte,Nat.reduceEqDiff,ASt.okB,AV.okB,Nat.reduceLT,implies_true,wrap_succ (show i < 1152921504606846976 by omega)])
    · have hd2:decide ((i:Int) < (l.length:Int))=false:=by simpa using hin
      have hie:i=l.length:=by omega
      repeat' (first|refine T.seqK fun K hK=>?_|refine T.block ?_|(refine T.reg (by kernel_rfl) fun K' hK'=>?_;simp only [startSt,frOf,List.map_cons,List.map_nil];(repeat' (first|(with_reducible refine WL.fin ?_;refine hK' _ ?_;clear hK' K')|((with_reducible refine WL.step fun K2 hK2=>?_);simp only [simprocAttr,implies_true,amz,tys,hlm,hd2];(repeat' (first|with_reducible (first|(refine hK2 _ ?_;clear hK2 K2)|refine And.intro ?_ ?_|intro hb) ))))))|refine T.skip ?_|refine T.exit ?_|refine T.condT rfl ?_|refine T.condF rfl ?_|refine T.cond rfl (fun hc=>?_) (fun hc=>?_)|refine T.ret ?_|simp only [ThenA,InBlock,reduceIte,Nat.reduceEqDiff]|((repeat ((fail_if_success (refine hK _ ?_));clear hK K));refine hK _ ?_;clear hK K))
      refine hKL _ (g + 1) ?_ (by omega) (by omega)
      rw [hnx,hie,List.take_length]
      refine Weak.of' rfl ?_;simp only [wks,reduceIte,Nat.reduceEqDiff,ASt.okB,AV.okB,Nat.reduceLT,implies_true,wrap_succ (show g < 1152921504606846976 by omega)]
  · have hd:decide ((g:Int) < 2)=false:=by simp;omega
    have hge:g=2:=by omega
    subst hge
    rw [mkG_two]
    repeat' (first|refine T.seqK fun K hK=>?_|refine T.block ?_|refine T.skip ?_|refine T.exit ?_|refine T.condT rfl ?_|refine T.condF rfl ?_|refine T.cond rfl (fun hc=>?_) (fun hc=>?_)|refine T.ret ?_|simp only [ThenA,InBlock,reduceIte,Nat.reduceEqDiff]|((repeat ((fail_if_success (refine hK _ ?_));clear hK K));refine hK _ ?_;clear hK K))
    (refine T.reg (by kernel_rfl) fun K' hK'=>?_;simp only [startSt,frOf,List.map_cons,List.map_nil];(repeat' (first|(with_reducible refine WL.fin ?_;refine hK' _ ?_;clear hK' K')|((with_reducible refine WL.step fun K2 hK2=>?_);simp only [simprocAttr,implies_true,amz,tys,hd];(repeat' (first|with_reducible (first|(refine hK2 _ ?_;clear hK2 K2)|refine And.intro ?_ ?_|intro hb) )))));all_goals ((try simp only [ThenA,InBlock,reduceIte,Nat.reduceEqDiff]);(try ((repeat ((fail_if_success (refine hK _ ?_));clear hK K));refine hK _ ?_;clear hK K))))
    repeat' (first|refine T.seqK fun K hK=>?_|refine T.block ?_|refine T.skip ?_|refine T.exit ?_|refine T.condT rfl ?_|refine T.condF rfl ?_|refine T.cond rfl (fun hc=>?_) (fun hc=>?_)|refine T.ret ?_|simp only [ThenA,InBlock,reduceIte,Nat.reduceEqDiff]|((repeat ((fail_if_success (refine hK _ ?_));clear hK K));refine hK _ ?_;clear hK K))
    obtain ⟨q,hq⟩ : ∃ q,q=secQ l:=⟨_,rfl⟩
    have hat:=fun i e=>mk_at l (ob:Int) (off:Int) (i:=i) (e:=e)
    have hml:=mk_len l (ob:Int) (off:Int)
    have hms:=mk_small (ob:Int) (off:Int) hn
    have hrc:=mk_races l (ob:Int) (off:Int)
    have hhb:=mk_hb l (ob:Int) (off:Int)
    have hq4 : 4≤q:=by rw [hq];unfold secQ;omega
    rw [← hq] at hat hml hrc hhb
    generalize mkL l (ob:Int) (off:Int)=m at hat hml hms hrc hhb
    have hmm:(m.map evC).length=m.length:=by simp
    refine T.weak (s':=⟨[(7,.own 0)],[(0,.row 44 9 (m.map evC))],137,1⟩) (by refine Weak.of' rfl ?_;simp only [wks,reduceIte,Nat.reduceEqDiff,ASt.okB,AV.okB,Nat.reduceLT,implies_true,]) ?_
    refine T.weak (Weak.frz _ 0) ?_;simp only [ASt.frz,List.filter_cons,List.filter_nil,bne_self_eq_false,Nat.reduceBneDiff,Bool.false_eq_true,simprocAttr,implies_true,amz,]
    have hv:=validT_ok m (by omega)
    cases h5:(checkB m).2 with
    | false =>
      rw [h5] at hv
      repeat' (first|refine T.seqK fun K hK=>?_|refine T.block ?_|(refine T.reg (by kernel_rfl) fun K' hK'=>?_;simp only [startSt,frOf,List.map_cons,List.map_nil];(repeat' (first|(with_reducible refine WL.fin ?_;refine hK' _ ?_;clear hK' K')|((with_reducible refine WL.step fun K2 hK2=>?_);simp only [simprocAttr,implies_true,amz,tys,Bool.not_false];(repeat' (first|with_reducible (first|(refine hK2 _ ?_;clear hK2 K2)|refine And.intro ?_ ?_|intro hb)|((first|(with_reducible apply callArmO)|(with_reducible apply callArm));case h=>exact CallV.plain (Ent.of Try.func18 (by kernel_rfl) rfl) (hv) (by simp [AV.okB]))))))))|refine T.skip ?_|refine T.exit ?_|refine T.condT rfl ?_|refine T.condF rfl ?_|refine T.cond rfl (fun hc=>?_) (fun hc=>?_)|refine T.ret ?_|simp only [ThenA,InBlock,reduceIte,Nat.reduceEqDiff]|((repeat ((fail_if_success (refine hK _ ?_));clear hK K));refine hK _ ?_;clear hK K))
      all_goals (refine FinA.ret (.inr rfl) Try.results11 ?_;simp only [ares,aresL,ares1,simprocAttr,implies_true,amz,tys,])
    | true =>
      rw [h5] at hv
      have hra:=races_ok m (by omega)
      have hAl:(racesO m).length ≤ 1000000000000:=by rw [races_eq];exact racesR_len (by omega)
      have hbf:befO m (2:Int) ((q + 1:Nat):Int)=true:=(bef_nat (i := 2) (j:=q + 1) h5 (by omega) (by omega)).trans hhb
      have hb1:=before_ok m (by omega) 2 ((q + 1:Nat):Int)
      rw [hbf] at hb1
      generalize racesO m=A at hra hAl hrc
      repeat' (first|refine T.seqK fun K hK=>?_|refine T.block ?_|refine T.skip ?_|refine T.exit ?_|refine T.condT rfl ?_|refine T.condF rfl ?_|refine T.cond rfl (fun hc=>?_) (fun hc=>?_)|refine T.ret ?_|simp only [ThenA,InBlock,reduceIte,Nat.reduceEqDiff]|((repeat ((fail_if_success (refine hK _ ?_));clear hK K));refine hK _ ?_;clear hK K))
      (refine T.reg (by kernel_rfl) fun K' hK'=>?_;simp only [startSt,frOf,List.map_cons,List.map_nil];(repeat' (first|(with_reducible refine WL.fin ?_;refine hK' _ ?_;clear hK' K')|((with_reducible refine WL.step fun K2 hK2=>?_);simp only [simprocAttr,implies_true,amz,tys,Bool.not_true];(repeat' (first|with_reducible (first|(refine hK2 _ ?_;clear hK2 K2)|refine And.intro ?_ ?_|intro hb)|((first|(with_reducible apply callArmO)|(with_reducible apply callArm));case h=>exact CallV.plain (Ent.of Try.func18 (by kernel_rfl) rfl) (hv) (by simp [AV.okB])))))));all_goals ((try simp only [ThenA,InBlock,reduceIte,Nat.reduceEqDiff]);(try ((repeat ((fail_if_success (refine hK _ ?_));clear hK K));refine hK _ ?_;clear hK K))))
      repeat' (first|refine T.seqK fun K hK=>?_|refine T.block ?_|refine T.skip ?_|refine T.exit ?_|refine T.condT rfl ?_|refine T.condF rfl ?_|refine T.cond rfl (fun hc=>?_) (fun hc=>?_)|refine T.ret ?_|simp only [ThenA,InBlock,reduceIte,Nat.reduceEqDiff]|((repeat ((fail_if_success (refine hK _ ?_));clear hK K));refine hK _ ?_;clear hK K))
      (refine T.reg (by kernel_rfl) fun K' hK'=>?_;simp only [startSt,frOf,List.map_cons,List.map_nil];(repeat' (first|(with_reducible refine WL.fin ?_;refine hK' _ ?_;clear hK' K')|((with_reducible refine WL.step fun K2 hK2=>?_);simp only [simprocAttr,implies_true,amz,tys];(repeat' (first|with_reducible (first|(refine hK2 _ ?_;clear hK2 K2)|refine And.intro ?_ ?_|intro hb) )))));all_goals ((try simp only [ThenA,InBlock,reduceIte,Nat.reduceEqDiff]);(try ((repeat ((fail_if_success (refine hK _ ?_));clear hK K));refine hK _ ?_;clear hK K))))
      repeat' (first|refine T.seqK fun K hK=>?_|refine T.block ?_|refine T.skip ?_|refine T.exit ?_|refine T.condT rfl ?_|refine T.condF rfl ?_|refine T.cond rfl (fun hc=>?_) (fun hc=>?_)|refine T.ret ?_|simp only [ThenA,InBlock,reduceIte,Nat.reduceEqDiff]|((repeat ((fail_if_success (refine hK _ ?_));clear hK K));refine hK _ ?_;clear hK K))
      (refine T.reg (by kernel_rfl) fun K' hK'=>?_;simp only [startSt,frOf,List.map_cons,List.map_nil];(repeat' (first|(with_reducible refine WL.fin ?_;refine hK' _ ?_;clear hK' K')|((with_reducible refine WL.step fun K2 hK2=>?_);simp only [simprocAttr,implies_true,amz,tys];(repeat' (first|with_reducible (first|(refine hK2 _ ?_;clear hK2 K2)|refine And.intro ?_ ?_|intro hb) )))));all_goals ((try simp only [ThenA,InBlock,reduceIte,Nat.reduceEqDiff]);(try ((repeat ((fail_if_success (refine hK _ ?_));clear hK K));refine hK _ ?_;clear hK K))))
      repeat' (first|refine T.seqK fun K hK=>?_|refine T.block ?_|refine T.skip ?_|refine T.exit ?_|refine T.condT rfl ?_|refine T.condF rfl ?_|refine T.cond rfl (fun hc=>?_) (fun hc=>?_)|refine T.ret ?_|simp only [ThenA,InBlock,reduceIte,Nat.reduceEqDiff]|((repeat ((fail_if_success (refine hK _ ?_));clear hK K));refine hK _ ?_;clear hK K))
      refine T.loopK (fun i:Nat=>⟨[(7,.p (.seq 9 (m.map evC))),(10,.int (secI q i)),(11,.int i)],[],137,1⟩) (fun i=>i≤m.length) (fun i=>m.length - i) 0 (Nat.zero_le _) (by refine Weak.of' rfl ?_;simp only [wks,reduceIte,Nat.reduceEqDiff,ASt.okB,AV.okB,Nat.reduceLT,implies_true,Int.natCast_zero,secI,Nat.not_lt_zero]) ?_
      intro i hi KL2 hKL2
      by_cases hin:i < m.length
      · have hd2:decide ((i:Int) < (m.length:Int))=true:=by simpa using hin
        have hi0:(0:Int)≤(i:Int):=by omega
        obtain ⟨e,he⟩:=at_lt hin
        have hlk:=hat i e he
        have hw2:=wrap_succ (show i < 1152921504606846976 by omega)
        by_cases hiq:i=q
        · have hs:secI q (i + 1)=((i + 1:Nat):Int):=by unfold secI;rw [if_pos (by omega),hiq]
          have hlk' : isLk e=true:=by rw [hlk];simpa using hiq
          simp only [isLk,Bool.and_eq_true] at hlk'
          obtain ⟨c1,c2⟩:=hlk'
          repeat' (first|refine T.seqK fun K hK=>?_|refine T.block ?_|(refine T.reg (by kernel_rfl) fun K' hK'=>?_;simp only [startSt,frOf,List.map_cons,List.map_nil];(repeat' (first|(with_reducible refine WL.fin ?_;refine hK' _ ?_;clear hK' K')|((with_reducible refine WL.step fun K2 hK2=>?_);simp only [simprocAttr,implies_true,amz,tys,hmm,hd2,hi0,Int.toNat_natCast,he,evC,c1,c2,hw2];(repeat' (first|with_reducible (first|(refine hK2 _ ?_;clear hK2 K2)|refine And.intro ?_ ?_|intro hb) ))))))|refine T.skip ?_|refine T.exit ?_|refine T.condT rfl ?_|refine T.condF rfl ?_|refine T.cond rfl (fun hc=>?_) (fun hc=>?_)|refine T.ret ?_|simp only [ThenA,InBlock,reduceIte,Nat.reduceEqDiff]|((repeat ((fail_if_success (refine hK _ ?_));clear hK K));refine hK _ ?_;clear hK K))
          all_goals (refine hKL2 _ (i + 1) ?_ (by omega) (by omega);rw [hs];refine Weak.of' rfl ?_;simp only [wks,reduceIte,Nat.reduceEqDiff,ASt.okB,AV.okB,Nat.reduceLT,implies_true,hw2])
        · have hs : secI q (i + 1) = secI q i := by unfold secI; by_cases hlt : q < i
                                                    · rw [if_pos (by omega),if_pos hlt]
                                                    · rw [if_neg (by omega),if_neg hlt]
          have hlk' : isLk e=false:=by rw [hlk];simpa using hiq
          simp only [isLk] at hlk'
          cases c1:(e.g == 1) <;> cases c2:(e.kind == 6)
          all_goals (first|(focus (rw [c1,c2] at hlk';cases hlk';done))|skip)
          all_goals (repeat' (first|refine T.seqK fun K hK=>?_|refine T.block ?_|(refine T.reg (by kernel_rfl) fun K' hK'=>?_;simp only [startSt,frOf,List.map_cons,List.map_nil];(repeat' (first|(with_reducible refine WL.fin ?_;refine hK' _ ?_;clear hK' K')|((with_reducible refine WL.step fun K2 hK2=>?_);simp only [simprocAttr,implies_true,amz,tys,hmm,hd2,hi0,Int.toNat_natCast,he,evC,c1,c2,hw2];(repeat' (first|with_reducible (first|(refine hK2 _ ?_;clear hK2 K2)|refine And.intro ?_ ?_|intro hb) ))))))|refine T.skip ?_|refine T.exit ?_|refine T.condT rfl ?_|refine T.condF rfl ?_|refine T.cond rfl (fun hc=>?_) (fun hc=>?_)|refine T.ret ?_|simp only [ThenA,InBlock,reduceIte,Nat.reduceEqDiff]|((repeat ((fail_if_success (refine hK _ ?_));clear hK K));refine hK _ ?_;clear hK K)))
          all_goals (refine hKL2 _ (i + 1) ?_ (by omega) (by omega);rw [hs];refine Weak.of' rfl ?_;simp only [wks,reduceIte,Nat.reduceEqDiff,ASt.okB,AV.okB,Nat.reduceLT,implies_true,hw2])
      · have hd2:decide ((i:Int) < (m.length:Int))=false:=by simpa using hin
        have hs:secI q i=((q + 1:Nat):Int):=by unfold secI;rw [if_pos (by omega)]
        rw [hs]
        repeat' (first|refine T.seqK fun K hK=>?_|refine T.block ?_|(refine T.reg (by kernel_rfl) fun K' hK'=>?_;simp only [startSt,frOf,List.map_cons,List.map_nil];(repeat' (first|(with_reducible refine WL.fin ?_;refine hK' _ ?_;clear hK' K')|((with_reducible refine WL.step fun K2 hK2=>?_);simp only [simprocAttr,implies_true,amz,tys,hmm,hd2];(repeat' (first|with_reducible (first|(refine hK2 _ ?_;clear hK2 K2)|refine And.intro ?_ ?_|intro hb)|((first|(with_reducible apply callArmO)|(with_reducible apply callArm));case h=>exact CallV.plain (Ent.of Try.func24 (by kernel_rfl) rfl) (hra) (by simp [AV.okB]))))))))|refine T.skip ?_|refine T.exit ?_|refine T.condT rfl ?_|refine T.condF rfl ?_|refine T.cond rfl (fun hc=>?_) (fun hc=>?_)|refine T.ret ?_|simp only [ThenA,InBlock,reduceIte,Nat.reduceEqDiff]|((repeat ((fail_if_success (refine hK _ ?_));clear hK K));refine hK _ ?_;clear hK K))
        refine T.loopK (fun i:Nat=>⟨[(7,.p (.seq 9 (m.map evC))),(10,.int ((q + 1:Nat):Int)),(12,.p (.seq 2 (rowQ A))),(13,.int i)],[],137,1⟩) (fun i=>i≤A.length) (fun i=>A.length - i) 0 (Nat.zero_le _) (by refine Weak.of' rfl ?_;simp only [wks,reduceIte,Nat.reduceEqDiff,ASt.okB,AV.okB,Nat.reduceLT,implies_true,Int.natCast_zero]) ?_
        intro a ha KL3 hKL3
        by_cases han:a < A.length
        · have hd3:decide ((a:Int) < (A.length:Int))=true:=by simpa using han
          have ha0:(0:Int)≤(a:Int):=by omega
          obtain ⟨x,hx⟩:=at_lt han
          have p1:=rowQ_at hx
          have hne : ¬ (x.1=2∧x.2=q + 1):=fun ⟨k1,k2⟩=>hrc (by
            have:=List.mem_of_getElem? hx
            rwa [show x=(2,q + 1) from Prod.ext k1 k2] at this)
          cases c1:((x.1:Int) == 2) <;> cases c2:((x.2:Int) == ((q + 1:Nat):Int))
          all_goals (first|(focus (exfalso;apply hne;rw [beq_iff_eq] at c1 c2;omega))|skip)
          all_goals (repeat' (first|refine T.seqK fun K hK=>?_|refine T.block ?_|(refine T.reg (by kernel_rfl) fun K' hK'=>?_;simp only [startSt,frOf,List.map_cons,List.map_nil];(repeat' (first|(with_reducible refine WL.fin ?_;refine hK' _ ?_;clear hK' K')|((with_reducible refine WL.step fun K2 hK2=>?_);simp only [simprocAttr,implies_true,amz,tys,rowQ_len,hd3,ha0,Int.toNat_natCast,p1,raC,c1,c2];(repeat' (first|with_reducible (first|(refine hK2 _ ?_;clear hK2 K2)|refine And.intro ?_ ?_|intro hb) ))))))|refine T.skip ?_|refine T.exit ?_|refine T.condT rfl ?_|refine T.condF rfl ?_|refine T.cond rfl (fun hc=>?_) (fun hc=>?_)|refine T.ret ?_|simp only [ThenA,InBlock,reduceIte,Nat.reduceEqDiff]|((repeat ((fail_if_success (refine hK _ ?_));clear hK K));refine hK _ ?_;clear hK K)))
          all_goals (refine hKL3 _ (a + 1) ?_ (by omega) (by omega);refine Weak.of' rfl ?_;simp only [wks,reduceIte,Nat.reduceEqDiff,ASt.okB,AV.okB,Nat.reduceLT,implies_true,wrap_succ (show a < 1152921504606846976 by omega)])
        · have hd3:decide ((a:Int) < (A.length:Int))=false:=by simpa using han
          have hd4:decide ((2:Int) < ((q + 1:Nat):Int))=true:=by simp;omega
          repeat' (first|refine T.seqK fun K hK=>?_|refine T.block ?_|(refine T.reg (by kernel_rfl) fun K' hK'=>?_;simp only [startSt,frOf,List.map_cons,List.map_nil];(repeat' (first|(with_reducible refine WL.fin ?_;refine hK' _ ?_;clear hK' K')|((with_reducible refine WL.step fun K2 hK2=>?_);simp only [simprocAttr,implies_true,amz,tys,rowQ_len,hd3,hd4];(repeat' (first|with_reducible (first|(refine hK2 _ ?_;clear hK2 K2)|refine And.intro ?_ ?_|intro hb)|((first|(with_reducible apply callArmO)|(with_reducible apply callArm));case h=>exact CallV.plain (Ent.of Try.func16 (by kernel_rfl) rfl) (hb1) (by simp [AV.okB]))))))))|refine T.skip ?_|refine T.exit ?_|refine T.condT rfl ?_|refine T.condF rfl ?_|refine T.cond rfl (fun hc=>?_) (fun hc=>?_)|refine T.ret ?_|simp only [ThenA,InBlock,reduceIte,Nat.reduceEqDiff]|((repeat ((fail_if_success (refine hK _ ?_));clear hK K));refine hK _ ?_;clear hK K))
          refine FinA.ret (.inr rfl) Try.results11 ?_;simp only [ares,aresL,ares1,simprocAttr,implies_true,amz,tys,]
end Go.Proofs.Ytnckehomadnhoaa
