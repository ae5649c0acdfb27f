/- Texts Am, An, Ar. -/
import Derived.Maps.RangeRun
import Derived.Carry
import Derived.Test.YtbkkginjfnjffaaGreatDoorZ02
set_option maxHeartbeats 32000000
set_option maxRecDepth 100000
set_option linter.unusedSimpArgs false
set_option linter.unusedVariables false
namespace Go.Proofs.YtbkkginjfnjffaaGreatDoor
open Go.RowKit Go.Sort
section
variable {P:Program} {ops:Array Oper} {o:Oper} {s:ASt}
theorem PR.of_block {D:Nat→Prop} {w:World} {n:Nat} {rows:List (List PV)} {b cap:Nat} {arr:Array Value} {ty:TypeId} {fr:Nat × Nat} (h:w.heap[b]? = some (.cells arr ty fr)) (hD : ¬ D b) (hcap:rows.length≤cap) (hmax:cap≤maxLen) (hn : ∀ r ∈ rows,r.length=n)
  (hv : ∀ (k:Nat) r (j:Nat) x,rows[k]? = some r→r[j]? = some x → ∃ v,arr[k*n+j]? = some v∧PR D w x v):PR D w (.seq n rows) (.slice (some ⟨b,0,none⟩) rows.length cap):=by
 refine .seq n b 0 cap rows (fun k j=>arr.getD (k*n+j) undef) (Array.getElem?_eq_some_iff.1 h).1 hD hcap hmax hn (fun k r j x h1 h2=>?_) (fun k r j x h1 h2=>?_)
 ·obtain ⟨v,h3,h4⟩:=hv k r j x h1 h2
  rw [z05 h,Nat.zero_add,h3,Array.getD_eq_getD_getElem?,h3];rfl
 ·obtain ⟨v,h3,h4⟩:=hv k r j x h1 h2
  rw [Array.getD_eq_getD_getElem?,h3];exact h4
theorem op_buildS (t:TypeId) (len:Nat) (parts:Array (Nat × Operand)) (av:AV) (h:o.op = .buildSlice t len parts) (hl:z1y P s t len parts.toList=some av):qB P ops o s av:=fun L loc a w hr=>by
 have hev : ∀ (j i:Nat) (x:AV) (i' : Nat) (v:Value),(parts.toList.map fun p=>(p.1,s.ev p.2))[j]? = some (i,x)→(parts.map fun (i,x)=>(i,a.eval x)).toList[j]? = some (i',v)→i=i' ∧ AR s.N (Dm L loc) loc w x v:=fun j i x i' v h1 h2=>by
  simp only [Array.toList_map,List.getElem?_map,Option.map_eq_some_iff] at h1 h2
  obtain ⟨p,hp,e1⟩:=h1
  obtain ⟨p',hp',e2⟩:=h2
  rw [hp] at hp'
  cases hp'
  cases e1
  cases e2
  refine ⟨rfl,hr.ev p.2 (zJ ?_)⟩
  simp only [h,Op.operands]
  exact List.mem_map.2 ⟨p,List.mem_of_getElem? hp,rfl⟩
 have hlen:(parts.map fun (i,x)=>(i,a.eval x)).toList.length=(parts.toList.map fun p=>(p.1,s.ev p.2)).length:=by simp
 unfold z1y at hl
 split at hl
 ·rename_i e hu
  split at hl
  ·rename_i zs n hz hs
   split at hl
   ·rename_i hcond
    obtain ⟨hzl,hn0,hmax,hml⟩:=hcond
    split at hl
    ·rename_i cs hf
     obtain ⟨xs,hxs,rfl⟩:=Option.map_eq_some_iff.1 hl
     obtain ⟨i,z,hi,hiz,hzc,hone⟩:=z0j hz
     have hzsz:z.cells.size=n:=by rw [← hzl,← hzc];simp
     have hz0:Cs s.N (Dm L loc) loc w ((List.range (len*n)).map fun j => .p (.val (zs.getD (j % n) undef))) ((Array.range (len*n)).map fun j=>z.cells[j % z.cells.size]!):=by
      have e1 : ∀ j,z.cells[j % z.cells.size]! = zs.getD (j % n) undef:=fun j=>by
       have:j % n<z.cells.size:=by rw [hzsz];exact Nat.mod_lt _ hn0
       rw [hzsz,getElem!_pos z.cells _ this,← hzc,List.getD_eq_getElem?_getD,Array.getElem?_toList,Array.getElem?_eq_getElem this]
       rfl
      have e2:(Array.range (len*n)).map (fun j=>z.cells[j % z.cells.size]!)=((List.range (len*n)).map fun j=>zs.getD (j % n) undef).toArray:=by
       apply Array.ext'
       simp [e1]
      rw [e2]
      have:=Cs.zero s.N (Dm L loc) loc w (vs:=((List.range (len*n)).map fun j=>zs.getD (j % n) undef).toArray) (fun v hv=>by
       obtain ⟨j,_,rfl⟩:=List.mem_map.1 (show v ∈ (List.range (len*n)).map (fun j=>zs.getD (j % n) undef) from hv)
       have:j % n<zs.length:=by rw [hzl];exact Nat.mod_lt _ hn0
       rw [List.getD_eq_getElem?_getD,List.getElem?_eq_getElem this]
       exact hone _ (List.getElem_mem this))
      simpa [List.map_map,Function.comp_def] using this
     obtain ⟨us',h1,h2⟩:=z3w hlen hev hz0 hf
     obtain ⟨i',hi',his⟩:=Option.map_eq_some_iff.1 hs
     rw [hi] at hi'
     cases hi'
     have hrun:(Instr.buildSlice t len (parts.map fun (i,x)=>(i,a.eval x))).run P w = .ok (.slice (some ⟨w.heap.size,0,none⟩) len len) (w.alloc (.cells us' e)):=by
      have hm : ¬ (len*n > 2 ^ 24):=by omega
      have hnr : ∀ c:Array Value,(newRow e c).run P w = .ok ⟨w.heap.size,0,none⟩ (w.alloc (.cells c e)):=fun c=>by simp [newRow]
      unfold Instr.buildSlice
      by_cases h0:len*n=0
      ·have e3:(Array.range (len*n)).map (fun j=>z.cells[j % z.cells.size]!)=(Array.range (len*n)).map (fun j=>(#[] : Array Value)[j % (#[] : Array Value).size]!):=by rw [h0];apply Array.ext';simp
       rw [e3] at h1
       simp only [Sem.run_bind,run_underlying hu,Result.andThen_ok,sizeOf,typeInfo,run_program,hi,his,Sem.run_pure,if_neg hm,if_pos h0,h1,hnr]
      ·simp only [Sem.run_bind,run_underlying hu,Result.andThen_ok,sizeOf,typeInfo,run_program,hi,his,Sem.run_pure,if_neg hm,if_neg h0,zeroValue,hiz,h1,hnr]
     refine .inl ⟨_,_,by simp only [execOp,h,Sem.run_bind,hrun,Result.andThen_ok,Sem.run_pure];rfl,(Blw.refl _ _).alloc (Nat.le_refl _) _,?_⟩
     have hbl:Blw w.heap.size w (w.alloc (.cells us' e)):=(Blw.refl _ _).alloc (Nat.le_refl _) _
     have hcs:=z2v hxs
     have hcl:cs.length=len*n:=by
      have : ∀ (ps:List (Nat × AV)) (c c' : List AV),z2I (fun i=>some (i*n,n)) c ps=some c' → c'.length=c.length:=by
       intro ps
       induction ps with
       | nil=>intro c c' h;cases h;rfl
       | cons p r ih =>
        intro c c' h
        obtain ⟨k,x⟩:=p
        simp only [z2I] at h
        split at h
        ·split at h
         ·rename_i hc
          rw [ih _ _ h,qY hc.2]
         ·cases h
        ·cases h
      rw [this _ _ _ hf];simp
     have hxl:xs.length=len*n:=by rw [← hcl,hcs];simp
     have:=PR.of_block (D:=Dm L loc) (rows:=chunks n len xs) (cap:=len) (n:=n) (qR w (.cells us' e) _ rfl) (fun hd=>Nat.lt_irrefl _ (hr.hp.z7d hd)) (by rw [z00];exact Nat.le_refl _) hml (fun r hr'=>?_) (fun k r j x hk hx=>?_)
     ·rw [z00] at this
      exact .p _ _ this
     ·obtain ⟨k,hk,rfl⟩:=List.mem_iff_getElem.1 hr'
      rw [z00] at hk
      have e1:=z1n n len xs k _ (List.getElem?_eq_getElem (by rw [z00];exact hk))
      rw [e1,List.length_take,List.length_drop,hxl]
      have:(k+1)*n≤len*n:=Nat.mul_le_mul_right n hk
      rw [Nat.add_mul] at this
      omega
     ·have e1:=z1n n len xs k _ hk
      rw [e1,List.getElem?_take] at hx
      split at hx
      ·rw [List.getElem?_drop] at hx
       have hx' : cs[k*n+j]? = some (.p x):=by rw [hcs,List.getElem?_map,hx];rfl
       have h5:=h2.2.1 _ _ hx'
       have hlt:=(List.getElem?_eq_some_iff.1 hx').1
       rw [← h2.1] at hlt
       rw [Array.getD_eq_getD_getElem?,Array.getElem?_eq_getElem hlt] at h5
       refine ⟨_,Array.getElem?_eq_getElem hlt,?_⟩
       cases h5 with
       | p _ _ hp=>exact hp.mono (.of_below hbl) (fun _ _ h=>h)
      ·cases hx
    ·cases hl
   ·cases hl
  ·cases hl
 ·cases hl
def z3H (P:Program) (s:ASt) (t:TypeId) (lo hi:Option Int) (x:AV):Option AV:=match x with
 | .own tag=>match s.hp.lookup tag with
  | some (.row _ n rows)=>if qP P t=some n∧lo=none ∧ 0<rows.length ∧ 0≤hi.getD rows.length∧hi.getD rows.length≤rows.length then some (.pre tag (hi.getD rows.length).toNat) else if qP P t=some n∧hi=none ∧ 0≤lo.getD 0∧(lo.getD 0).toNat<rows.length then some (.suf tag n (lo.getD 0).toNat) else none
  | _=>none
 | .suf tag n m=>match s.hp.lookup tag with
  | some (.row _ n' rows)=>if n' = n∧qP P t=some n∧hi=none ∧ 0≤lo.getD 0∧m+(lo.getD 0).toNat≤rows.length ∧ 0<rows.length then some (.suf tag n (m+(lo.getD 0).toNat)) else none
  | _=>none
 | .p (.seq n rows)=>if qP P t=some n ∧ 0≤lo.getD 0∧lo.getD 0≤hi.getD rows.length∧hi.getD rows.length≤rows.length then some (.p (.seq n ((rows.take (hi.getD rows.length).toNat).drop (lo.getD 0).toNat))) else none
 | .p (.val (.slice none 0 0))=>if (qP P t).isSome=true∧lo.getD 0=0∧hi.getD 0=0 then some x else none
 | _=>none
def evI (s:ASt) (x:Option Operand):Option (Option Int):=match x with
 | none=>some none
 | some x=>match s.ev x with
  | .p (.val (.int _ n))=>some (some n)
  | _=>none
theorem PR.slice {D:Nat→Prop} {w:World} {n:Nat} {rows:List (List PV)} {ad:Option Addr} {len cap:Nat} (h:PR D w (.seq n rows) (.slice ad len cap)) {l u:Nat} (hlu:l≤u) (hu:u≤rows.length) :
  len=rows.length∧rows.length≤cap∧PR D w (.seq n ((rows.take u).drop l)) (.slice (if cap=l then ad else ad.map (·.add (l*n))) (u-l) (cap-l)):=by
 cases h with
 | nil n a cap h0 =>
  obtain rfl:u=0:=by simpa using hu
  obtain rfl:l=0:=by omega
  refine ⟨rfl,Nat.zero_le _,?_⟩
  have:=PR.nil (D:=D) (w:=w) n (if cap=0 then ad else ad.map (·.add (0*n))) (cap-0) (fun e=>by
   split at e
   ·omega
   ·have:=h0 (by simpa using e);omega)
  simpa using this
 | seq n b off cap rows f hb hnD hcap hmax hn hc hr =>
  refine ⟨rfl,hcap,?_⟩
  have hlen:((rows.take u).drop l).length=u-l:=by simp;omega
  have hget : ∀ k r,((rows.take u).drop l)[k]? = some r→rows[l+k]? = some r:=fun k r h=>by
   rw [List.getElem?_drop,List.getElem?_take] at h
   split at h
   ·exact h
   ·cases h
  have main:PR D w (.seq n ((rows.take u).drop l)) (.slice (some ⟨b,off+l*n,none⟩) ((rows.take u).drop l).length (cap-l)):=by
   refine .seq n b (off+l*n) (cap-l) _ (fun k j=>f (l+k) j) hb hnD (by omega) (by omega) (fun r hr'=>hn r (List.mem_of_mem_take (List.mem_of_mem_drop hr'))) (fun k r j x hk hx=>?_) (fun k r j x hk hx=>hr _ r j x (hget k r hk) hx)
   rw [← hc _ r j x (hget k r hk) hx]
   congr 2
   rw [Nat.add_mul];omega
  by_cases e:cap=l
  ·rw [if_pos e]
   have h0:(rows.take u).drop l = []:=List.eq_nil_of_length_eq_zero (by omega)
   rw [h0]
   have h1:u-l=0:=by omega
   have:=PR.seq (D:=D) (w:=w) n b off (cap-l) [] (fun _ _=>undef) hb hnD (by simp) (by omega) (fun r h=>by cases h) (fun k r j x h=>by simp at h) (fun k r j x h=>by simp at h)
   rw [h1]
   exact this
  ·rw [if_neg e]
   rw [hlen] at main
   have e2:(some (⟨b,off,none⟩ : Addr)).map (·.add (l*n))=some ⟨b,off+l*n,none⟩:=by simp [Addr.add_mid]
   rw [e2]
   exact main
theorem z90 {P:Program} {w:World} {len cap:Nat} {lo hi:Option Value} {l u:Int} (hlo:(lo=none∧l=0) ∨ ∃ k,lo=some (.int k l)) (hhi:(hi=none∧u=len) ∨ ∃ k,hi=some (.int k u)) (h0 : 0≤l) (h1:l≤u) (h2:u≤len) (h3:len≤cap) :
  (Instr.sliceBounds true len cap lo hi none).run P w = .ok (l.toNat,u.toNat,cap) w:=by
 have hu0 : 0≤u:=by omega
 have huc:u≤(cap:Int):=by omega
 have hlu:l≤((u.toNat:Nat):Int):=by omega
 rcases hlo with ⟨rfl,rfl⟩|⟨k,rfl⟩ <;> rcases hhi with ⟨rfl,rfl⟩|⟨k',rfl⟩ <;> simp [Instr.sliceBounds,Instr.sliceBound,asIntOf,hu0,huc,hlu,h0]
 all_goals first|omega|(intro _;omega)
theorem op_slice (t:TypeId) (x:Operand) (lo hi:Option Operand) (li ui:Option Int) (av:AV) (h:o.op = .slice t x lo hi none) (h1:evI s lo=some li) (h2:evI s hi=some ui) (hl:z3H P s t li ui (s.ev x)=some av):qB P ops o s av := .pure fun L loc a w hr=>by
 have hx:=hr.ev x (zJ (by simp [h,Op.operands]))
 have hlo : ∀ n,(lo.map a.eval=none∧li.getD n=n∧li=none) ∨ ∃ k m,lo.map a.eval=some (.int k m)∧li=some m:=fun n=>by
  cases lo with
  | none=>cases h1;exact .inl ⟨rfl,rfl,rfl⟩
  | some y =>
   simp only [evI] at h1
   split at h1
   ·rename_i k m hy
    cases h1
    have:=hr.ev y (zJ (by simp [h,Op.operands]))
    rw [hy] at this
    exact .inr ⟨k,m,by simp [this.val],rfl⟩
   ·cases h1
 have hhi : ∀ n,(hi.map a.eval=none∧ui.getD n=n∧ui=none) ∨ ∃ k m,hi.map a.eval=some (.int k m)∧ui=some m:=fun n=>by
  cases hi with
  | none=>cases h2;exact .inl ⟨rfl,rfl,rfl⟩
  | some y =>
   simp only [evI] at h2
   split at h2
   ·rename_i k m hy
    cases h2
    have:=hr.ev y (zJ (by simp [h,Op.operands]))
    rw [hy] at this
    exact .inr ⟨k,m,by simp [this.val],rfl⟩
   ·cases h2
 have he : ∀ v,(Instr.sliceAt t (a.eval x) (lo.map a.eval) (hi.map a.eval) none).run P w = .ok v w→(execOp a.eval o).run P w = .ok (.value v) w:=fun v hv=>by simp only [execOp,h,Option.map_none,Sem.run_bind,hv,Result.andThen_ok,Sem.run_pure]
 have hrunS : ∀ {ad:Option Addr} {len cap n:Nat} {l u:Int},qP P t=some n→((lo.map a.eval=none∧l=0) ∨ ∃ k,lo.map a.eval=some (.int k l))→((hi.map a.eval=none∧u=len) ∨ ∃ k,hi.map a.eval=some (.int k u)) → 0≤l→l≤u→u≤len→len≤cap →
   (Instr.sliceAt t (.slice ad len cap) (lo.map a.eval) (hi.map a.eval) none).run P w = .ok (.slice (if cap=l.toNat then ad else ad.map (·.add (l.toNat*n))) (u.toNat-l.toNat) (cap-l.toNat)) w:=by
  intro ad len cap n l u he hlo hhi g0 g1 g2 g3
  unfold qP at he
  split at he
  ·rename_i e hu
   obtain ⟨i,hi',hin⟩:=Option.map_eq_some_iff.1 he
   have hb:=z90 (P:=P) (w:=w) hlo hhi g0 g1 g2 g3
   simp only [Instr.sliceAt,Instr.slice,Sem.run_bind,run_underlying hu,Result.andThen_ok,hb,sizeOf,typeInfo,run_program,hi',hin,Sem.run_pure]
  ·cases he
 generalize a.eval x=v at *
 generalize s.ev x=y at *
 unfold z3H at hl
 split at hl
 ·rename_i tag
  cases hlk:s.hp.lookup tag with
  | none=>rw [hlk] at hl;cases hl
  | some ob =>
   rw [hlk] at hl
   obtain ⟨htN,u',hu',hor⟩:=hr.hp.at' tag ob hlk
   cases ob with
   | map _ _ _ _ _=>cases hl
   | raw _ _=>cases hl
   | lrec _ _ _=>cases hl
   | amap _ _ _ _ _=>cases hl
   | arow _ _=>cases hl
   | afix _ _ _ _=>cases hl
   | boxP pin ty cs=>cases hl
   | row e n rows =>
    simp only at hl
    split at hl
    ·rename_i hcond
     obtain ⟨c1,c2,c0,c3,c4⟩:=hcond
     cases hl
     obtain ⟨flat,hown,_⟩:=hor
     cases hx with
     | own _ _ _ _ hv =>
     obtain rfl:=hv _ hu'
     rcases hown.2 with ⟨_,h0⟩|⟨g,cap,cur,rfl,_,_,hle,_⟩
     ·omega
     ·have hn0:hi.map a.eval=none∧ui.getD rows.length=(rows.length:Int) ∨ ∃ k,hi.map a.eval=some (.int k (ui.getD rows.length)):=by
       rcases hhi rows.length with ⟨g1,g2,_⟩|⟨k,m,g1,rfl⟩
       ·exact .inl ⟨g1,g2⟩
       ·exact .inr ⟨k,g1⟩
      have hl0:lo.map a.eval=none∧(0:Int)=0 ∨ ∃ k,lo.map a.eval=some (.int k 0):=by
       rcases hlo 0 with ⟨g1,_,_⟩|⟨k,m,g1,e⟩
       ·exact .inl ⟨g1,rfl⟩
       ·rw [c2] at e;cases e
      have:=hrunS (ad:=some ⟨g,0,none⟩) (len:=rows.length) (cap:=cap) (l := 0) (u:=ui.getD rows.length) c1 hl0 hn0 (by omega) c3 c4 hle
      have e2:(if cap=(0:Int).toNat then (some (⟨g,0,none⟩ : Addr)) else (some (⟨g,0,none⟩ : Addr)).map (·.add ((0:Int).toNat*n)))=some ⟨g,0,none⟩:=by
       rw [if_neg (by simp;omega)];simp [Addr.add_mid]
      rw [e2] at this
      refine ⟨_,he _ this,.pre tag _ _ htN rfl fun b l c hb=>?_⟩
      rw [hu'] at hb
      cases hb
      rfl
    ·split at hl
     ·rename_i hcond
      obtain ⟨c1,c2,c3,c4⟩:=hcond
      cases hl
      obtain ⟨flat,hown,_⟩:=hor
      cases hx with
      | own _ _ _ _ hv =>
      obtain rfl:=hv _ hu'
      rcases hown.2 with ⟨_,h0⟩|⟨g,cap,cur,rfl,_,_,hle,_⟩
      ·omega
      ·have hn0:hi.map a.eval=none∧((rows.length:Nat):Int)=(rows.length:Int) ∨ ∃ k,hi.map a.eval=some (.int k ((rows.length:Nat):Int)):=by
        rcases hhi rows.length with ⟨g1,_,_⟩|⟨k,m,g1,e⟩
        ·exact .inl ⟨g1,rfl⟩
        ·rw [c2] at e;cases e
       have hl0:lo.map a.eval=none∧li.getD 0=0 ∨ ∃ k,lo.map a.eval=some (.int k (li.getD 0)):=by
        rcases hlo 0 with ⟨g1,g2,_⟩|⟨k,m,g1,rfl⟩
        ·exact .inl ⟨g1,g2⟩
        ·exact .inr ⟨k,g1⟩
       have:=hrunS (ad:=some ⟨g,0,none⟩) (len:=rows.length) (cap:=cap) (l:=li.getD 0) (u:=((rows.length:Nat):Int)) c1 hl0 hn0 c3 (by omega) (Int.le_refl _) hle
       rw [if_neg (by omega),Option.map_some,Addr.add_mid,Nat.zero_add] at this
       refine ⟨_,he _ this,.suf tag n _ _ htN rfl fun b l c hb=>?_⟩
       rw [hu'] at hb
       cases hb
       exact ⟨_,rfl,fun _=>rfl⟩
     ·cases hl
 ·rename_i tag n m
  cases hlk:s.hp.lookup tag with
  | none=>rw [hlk] at hl;cases hl
  | some ob =>
   rw [hlk] at hl
   obtain ⟨htN,u',hu',hor⟩:=hr.hp.at' tag ob hlk
   cases ob with
   | map _ _ _ _ _=>cases hl
   | raw _ _=>cases hl
   | lrec _ _ _=>cases hl
   | amap _ _ _ _ _=>cases hl
   | arow _ _=>cases hl
   | afix _ _ _ _=>cases hl
   | boxP pin ty cs=>cases hl
   | row e n' rows =>
    simp only at hl
    split at hl
    ·rename_i hcond
     obtain ⟨rfl,c1,c2,c3,c4,c5⟩:=hcond
     cases hl
     obtain ⟨flat,hown,_⟩:=hor
     cases hx with
     | suf _ _ _ _ _ _ hv =>
     rcases hown.2 with ⟨_,h0⟩|⟨g,cap,cur,rfl,_,_,hle,_⟩
     ·omega
     ·obtain ⟨oo,rfl,hoo⟩:=hv _ _ _ hu'
      have hn0:hi.map a.eval=none∧((rows.length-m:Nat):Int)=((rows.length-m:Nat):Int) ∨ ∃ k,hi.map a.eval=some (.int k ((rows.length-m:Nat):Int)):=by
       rcases hhi rows.length with ⟨g1,_,_⟩|⟨k,q,g1,e⟩
       ·exact .inl ⟨g1,rfl⟩
       ·rw [c2] at e;cases e
      have hl0:lo.map a.eval=none∧li.getD 0=0 ∨ ∃ k,lo.map a.eval=some (.int k (li.getD 0)):=by
       rcases hlo 0 with ⟨g1,g2,_⟩|⟨k,q,g1,rfl⟩
       ·exact .inl ⟨g1,g2⟩
       ·exact .inr ⟨k,g1⟩
      have:=hrunS (ad:=some ⟨g,oo,none⟩) (len:=rows.length-m) (cap:=cap-m) (l:=li.getD 0) (u:=((rows.length-m:Nat):Int)) c1 hl0 hn0 c3 (by omega) (Int.le_refl _) (by omega)
      rw [Int.toNat_natCast,Nat.sub_sub,Nat.sub_sub] at this
      have e3:(if cap-m=(li.getD 0).toNat then (some (⟨g,oo,none⟩ : Addr)) else (some (⟨g,oo,none⟩ : Addr)).map (·.add ((li.getD 0).toNat*n')))=some ⟨g,if cap-m=(li.getD 0).toNat then oo else oo+(li.getD 0).toNat*n',none⟩:=by
       split
       ·rfl
       ·simp [Addr.add_mid]
      rw [e3] at this
      refine ⟨_,he _ this,.suf tag n' _ _ htN rfl fun b l c hb=>?_⟩
      rw [hu'] at hb
      cases hb
      refine ⟨_,rfl,fun hlt=>?_⟩
      rw [if_neg (by omega),hoo (by omega),← Nat.add_mul]
    ·cases hl
 ·rename_i n rows
  split at hl
  ·rename_i hcond
   obtain ⟨c1,c2,c3,c4⟩:=hcond
   cases hl
   cases hx with
   | p _ _ hp =>
   have hsl : ∃ ad len cap,v = .slice ad len cap:=by
    cases hp with
    | nil n a cap h0=>exact ⟨_,_,_,rfl⟩
    | seq=>exact ⟨_,_,_,rfl⟩
   obtain ⟨ad,len,cap,rfl⟩:=hsl
   obtain ⟨e1,e2,e3⟩:=hp.slice (l:=(li.getD 0).toNat) (u:=(ui.getD rows.length).toNat) (by omega) (by omega)
   subst e1
   refine ⟨_,he _ (hrunS c1 (l:=li.getD 0) (u:=ui.getD rows.length) ?_ ?_ c2 c3 c4 e2),.p _ _ e3⟩
   ·rcases hlo 0 with ⟨g1,g2,_⟩|⟨k,m,g1,rfl⟩
    ·exact .inl ⟨g1,g2⟩
    ·exact .inr ⟨k,g1⟩
   ·rcases hhi rows.length with ⟨g1,g2,_⟩|⟨k,m,g1,rfl⟩
    ·exact .inl ⟨g1,g2⟩
    ·exact .inr ⟨k,g1⟩
  ·cases hl
 ·split at hl
  ·rename_i hcond
   obtain ⟨c1,c2,c3⟩:=hcond
   cases hl
   obtain ⟨n,c1⟩:=Option.isSome_iff_exists.1 c1
   obtain rfl:=hx.val
   have:=hrunS (ad:=none) (len := 0) (cap := 0) (l := 0) (u := 0) c1 ?_ ?_ (by omega) (by omega) (by simp) (by simp)
   ·exact ⟨_,he _ this,.qC _ rfl⟩
   ·rcases hlo 0 with ⟨g1,_,_⟩|⟨k,m,g1,rfl⟩
    ·exact .inl ⟨g1,rfl⟩
    ·simp at c2;subst c2;exact .inr ⟨k,g1⟩
   ·rcases hhi 0 with ⟨g1,_,_⟩|⟨k,m,g1,rfl⟩
    ·exact .inl ⟨g1,rfl⟩
    ·simp at c3;subst c3;exact .inr ⟨k,g1⟩
  ·cases hl
 ·cases hl
end
section
variable {P:Program} {ops:Array Oper} {o:Oper} {s:ASt}
theorem z6J {N:Nat} {D:Nat→Prop} {loc:Nat→Option Value} {w:World} {t:TypeId} {cs:List AV} {vs:Array Value} {off:Nat} {av:AV} (hc:Cs N D loc w cs vs) (h:z1O P t cs off=some av) : ∃ v,(part t vs off).run P w = .ok v w∧AR N D loc w av v:=by
 unfold z1O at h
 cases h1:qf P t with
 | none=>rw [h1] at h;cases h
 | some r =>
  cases h2:qy P t with
  | none=>rw [h1,h2] at h;cases r <;> cases h
  | some n =>
   rw [h1,h2] at h
   unfold qf at h1
   obtain ⟨d,hu,hd⟩:=Option.map_eq_some_iff.1 h1
   obtain ⟨i,hi,hin⟩:=Option.map_eq_some_iff.1 h2
   cases r with
   | true =>
    simp only at h
    split at h
    ·rename_i hl
     simp only [Option.some.injEq] at h
     subst h
     have hagg:(isAgg t).run P w = .ok true w:=by
      unfold isAgg
      rw [Sem.run_bind,run_underlying hu w]
      cases d <;> simp_all
     have hget : ∀ j,(vs.extract off (off+n)).getD j undef=if j<n then vs.getD (off+j) undef else undef:=fun j=>by
      rw [Array.getD_eq_getD_getElem?,Array.getElem?_extract,Array.getD_eq_getD_getElem?]
      by_cases hj:j<n
      ·rw [if_pos hj,if_pos (by rw [hc.1];omega)]
      ·rw [if_neg hj,if_neg (by omega)];rfl
     have hsz:(vs.extract off (off+n)).size=n:=by rw [Array.size_extract,hc.1];omega
     refine ⟨.agg (vs.extract off (off+n)),by simp only [part,Sem.run_bind,hagg,Result.andThen_ok,if_true,sizeOf,typeInfo,run_program,hi,hin,Sem.run_pure],.agg _ _ (by rw [hsz];simp;omega) (fun j x hx=>?_) (fun j hj=>?_)⟩
     ·obtain ⟨hlt,_⟩:=List.getElem?_eq_some_iff.1 hx
      simp only [List.length_take,List.length_drop] at hlt
      rw [List.getElem?_take,if_pos (by omega),List.getElem?_drop] at hx
      rw [hget,if_pos (by omega)]
      exact hc.2.1 _ x hx
     ·rw [hsz] at hj
      rw [hget,if_pos hj]
      exact hc.2.2 _ (by rw [hc.1];omega)
    ·cases h
   | false =>
    simp only at h
    have hlt:=(List.getElem?_eq_some_iff.1 h).1
    have h5:=hc.2.1 off av h
    rw [Array.getD_eq_getD_getElem?,Array.getElem?_eq_getElem (by rw [hc.1];exact hlt),Option.getD_some] at h5
    have hagg:(isAgg t).run P w = .ok false w:=by
     unfold isAgg
     rw [Sem.run_bind,run_underlying hu w]
     cases d <;> simp_all
    exact ⟨_,by simp only [part,Sem.run_bind,hagg,Result.andThen_ok,Bool.false_eq_true,if_false,Array.getElem?_eq_getElem (show off<vs.size by rw [hc.1];exact hlt),Sem.run_pure],h5⟩
def zX (P:Program) (t:TypeId) (f:Nat):Option (Nat × Nat):=match P.underlying t with
 | some (.struct fs)=>(fs[f]?).map fun fd=>(fd.type,fd.offset)
 | _=>none
def z7D (P:Program) (s:ASt) (t:TypeId) (f:Nat) (x:Operand):Option AV:=match s.ev x,zX P t f with
 | .agg cs,some (ty,off)=>z1O P ty cs off
 | _,_=>none
theorem op_fieldV (t:TypeId) (x:Operand) (f:Nat) (av:AV) (h:o.op = .field t x f) (hl:z7D P s t f x=some av):qB P ops o s av := .pure fun L loc a w hr=>by
 have hx:=hr.ev x (zJ (by simp [h,Op.operands]))
 unfold z7D at hl
 split at hl
 ·rename_i cs ty off he hf
  rw [he] at hx
  generalize hv:a.eval x=v at hx
  cases hx with
  | agg _ vs h1 h2 h3 =>
  obtain ⟨u,hu,hav⟩:=z6J (P:=P) ⟨h1,h2,h3⟩ hl
  unfold zX at hf
  split at hf
  ·rename_i fs hun
   obtain ⟨fd,hfd,e⟩:=Option.map_eq_some_iff.1 hf
   cases e
   exact ⟨u,by simp only [execOp,h,hv,Instr.field,Sem.run_bind,run_underlying hun,Result.andThen_ok,hfd,asAgg,Sem.run_pure,hu],hav⟩
  ·cases hf
 ·cases hl
def elemA (P:Program) (t:TypeId):Option (Nat × Nat × Nat):=match P.underlying t with
 | some (.array n e)=>(qy P e).map fun k=>(e,k,n)
 | _=>none
def z7E (P:Program) (s:ASt) (t:TypeId) (x i:Operand):Option AV:=match s.ev x,s.ev i,elemA P t with
 | .agg cs,.p (.val (.int _ n)),some (e,k,len)=>if 0≤n∧n<len then z1O P e cs (n.toNat*k) else none
 | _,_,_=>none
theorem op_indexV (t:TypeId) (x i:Operand) (av:AV) (h:o.op = .index t x i) (hl:z7E P s t x i=some av):qB P ops o s av := .pure fun L loc a w hr=>by
 have hx:=hr.ev x (zJ (by simp [h,Op.operands]))
 have hi:=hr.ev i (zJ (by simp [h,Op.operands]))
 unfold z7E at hl
 split at hl
 ·rename_i cs kd n e k len he hie hel
  rw [he] at hx
  rw [hie] at hi
  split at hl
  ·rename_i hcond
   generalize hv:a.eval x=v at hx
   cases hx with
   | agg _ vs h1 h2 h3 =>
   obtain ⟨u,hu,hav⟩:=z6J (P:=P) ⟨h1,h2,h3⟩ hl
   unfold elemA at hel
   split at hel
   ·rename_i len' e' hun
    obtain ⟨k',hk,e⟩:=Option.map_eq_some_iff.1 hel
    cases e
    obtain ⟨ti,hti,htk⟩:=Option.map_eq_some_iff.1 hk
    exact ⟨u,by simp only [execOp,h,hv,hi.val,Instr.index,asIntOf,Sem.run_bind,run_underlying hun,Result.andThen_ok,Sem.run_pure,if_pos hcond,sizeOf,typeInfo,run_program,hti,htk,hu],hav⟩
   ·cases hel
  ·cases hl
 ·cases hl
theorem z8c (t:TypeId) (x y:Operand) (k k' : IntKind) (e n bytes l:Nat) (zs:List Value) (h:o.op = .makeSlice t x y) (hx:s.ev x = .p (.val (.int k l))) (hy:s.ev y = .p (.val (.int k' l))) (ht:zY P t=some (e,n,bytes)) (hz:zN P e=some zs)
    (hl:l≤maxLen) (hb:bytes*l≤140737488355328) (hd : ∀ t,o.dst=some t→t<s.n):z0L P o s ((s.add (.row e n (List.replicate l (zs.map .val)))).put o.dst (.own s.N)):=fun L loc a w hr=>by
  have h1:=hr.ev x (fun _ _=>trivial)
  have h2:=hr.ev y (fun _ _=>trivial)
  rw [hx] at h1
  rw [hy] at h2
  obtain ⟨i,z,hu,hi,hiz,hsz,hby,hzs,hn0⟩:=(z0g ht).h
  obtain ⟨i',z',hi',hiz',hzc,hone⟩:=z0j hz
  rw [hi] at hi'
  cases hi'
  rw [hiz] at hiz'
  cases hiz'
  subst hsz
  have hml:maxLen=9223372036854775807:=rfl
  have hrun := run_make (P := P) w t e i z hu hi hiz k k' l l (by omega) (Int.le_refl _) (by rw [hby]; have : ((bytes * l : Nat) : Int) ≤ 281474976710656 := by omega
                                                                                             rwa [Int.natCast_mul] at this) (by omega)
  simp only [Int.toNat_natCast] at hrun
  have hb0:Blw w.heap.size w (w.alloc (.cells (madeCells z.cells (l*i.size)) e)):=(Blw.refl _ _).alloc (Nat.le_refl _) _
  have hu0 : ∀ b,ql (.slice (some ⟨w.heap.size,0,none⟩) l l)=some b→w.heap.size≤b:=fun b e=>by cases e;exact Nat.le_refl _
  have hzl:zs.length=i.size:=by rw [← hzc,← hzs];simp
  have hcell : ∀ j,j<l*i.size→(madeCells z.cells (l*i.size))[j]? = zs[j % i.size]?:=fun j hj=>by
    have hm:j % i.size<z.cells.size:=by rw [hzs];exact Nat.mod_lt _ hn0
    rw [madeCells,Array.getElem?_map,Array.getElem?_range,if_pos hj]
    simp only [Option.map_some]
    rw [hzs,getElem!_pos z.cells _ hm,← hzc,Array.getElem?_toList,Array.getElem?_eq_getElem hm]
  have ho:OR (s.N+1) (Dm L (qj loc s.N (.slice (some ⟨w.heap.size,0,none⟩) l l))) (qj loc s.N (.slice (some ⟨w.heap.size,0,none⟩) l l)) (w.alloc (.cells (madeCells z.cells (l*i.size)) e)) (.slice (some ⟨w.heap.size,0,none⟩) l l) (.row e i.size (List.replicate l (zs.map .val))):=by
    refine ⟨(madeCells z.cells (l*i.size)).toList,⟨by simp [size_madeCells],.inr ⟨w.heap.size,l,_,by simp,Nat.zero_le _,qR w _ _ rfl,by simp,hl,size_madeCells _ _,?_⟩⟩,fun r hr'=>?_,fun k r j x hk hx=>?_,fun v hv=>?_⟩
    · rw [List.length_replicate,List.take_of_length_le (by simp [size_madeCells])]
    · rw [(List.mem_replicate.1 hr').2,List.length_map,hzl]
    · rw [List.getElem?_replicate] at hk
      split at hk
      · rename_i hkl
        cases hk
        have hjl:=(List.getElem?_eq_some_iff.1 hx).1
        simp only [List.length_map,hzl] at hjl
        obtain ⟨v,hv,rfl⟩:=Option.map_eq_some_iff.1 (by simpa using hx:(zs[j]?).map PV.val=some x)
        have hlt:k*i.size+j<l*i.size:=by
          have:(k+1)*i.size≤l*i.size:=Nat.mul_le_mul_right _ hkl
          rw [Nat.add_mul] at this
          omega
        refine ⟨v,?_,.val v (hone v (List.mem_of_getElem? hv))⟩
        rw [Array.getElem?_toList,hcell _ hlt,Nat.mul_comm,Nat.mul_add_mod,Nat.mod_eq_of_lt hjl,hv]
      · cases hk
    · obtain ⟨j,hj,rfl⟩:=List.mem_iff_getElem.1 hv
      simp only [Array.length_toList,size_madeCells] at hj
      have:=hcell j hj
      rw [← Array.getElem?_toList,List.getElem?_eq_getElem (by simpa [size_madeCells] using hj)] at this
      exact hone _ (List.mem_of_getElem? this.symm)
  unfold Oper.wp
  have he:(execOp a.eval o).run P w = .ok (.value (.slice (some ⟨w.heap.size,0,none⟩) l l)) (w.alloc (.cells (madeCells z.cells (l*i.size)) e)):=by
    simp only [execOp,h,h1.val,h2.val,Sem.run_bind,hrun,Result.andThen_ok,Sem.run_pure]
  rw [he]
  refine ⟨qj loc s.N (.slice (some ⟨w.heap.size,0,none⟩) l l),?_,.add hb0 _ _ hu0⟩
  refine (hr.add hb0 _ _ hu0 ho).put' hd (.own s.N _ (Nat.lt_succ_self _) rfl fun u hu=>?_)
  rw [zQ] at hu;cases hu;rfl
theorem z1U {α:Type} {cs:List α} {off m:Nat} {xs:List α} (h:off+xs.length≤m) (hm:m≤cs.length):(qM cs off xs).take m=qM (cs.take m) off xs:=by
 apply List.ext_getElem?
 intro j
 rw [List.getElem?_take,qK (by omega),qK (by rw [List.length_take];omega),List.getElem?_take]
 by_cases h1:j<m
 ·rw [if_pos h1,if_pos h1]
 ·rw [if_neg h1,if_neg h1,if_neg (by omega)]
theorem op_storeR (t:TypeId) (x y:Operand) (tag n k off:Nat) (e:Nat) (rows:List (List PV)) (r:List PV) (ys:List AV) (ps:List PV) (h:o.op = .store t x y) (hx:s.ev x = .rptr tag n k off) (hlk:s.hp.lookup tag=some (.row e n rows)) (hr:rows[k]? = some r)
  (hy:z0e (s.ev y)=some ys) (hp:z6F ys=some ps) (hsz:qy P t=some ys.length) (hl:off+ys.length≤n) (hd:o.dst=none):z0L P o s { s with hp:=zO s.hp tag (.row e n (rows.set k (qM r off ps))) }:=fun L loc a w hrel=>by
 have h1:=hrel.ev x (fun _ _=>trivial)
 have h2:=hrel.ev y (fun _ _=>trivial)
 rw [hx] at h1
 obtain ⟨_,u,hu,hor⟩:=hrel.hp.at' tag _ hlk
 obtain ⟨flat,hown,hrn,hfl,hone⟩:=hor
 obtain ⟨k1,k2,k3⟩:=z1S h2 hy
 have hkl:=(List.getElem?_eq_some_iff.1 hr).1
 have hrl:r.length=n:=hrn r (List.mem_of_getElem? hr)
 have hys:=z2v hp
 have hpl:ps.length=ys.length:=by rw [hys];simp
 generalize hax:a.eval x=ax at h1
 cases h1 with
 | rptr _ _ _ _ _ _ _ hv =>
 have hown':=hown
 rcases hown.2 with ⟨_,h0⟩|⟨g,cap,cur,rfl,_,hg,hle,hmx,hcs,htk⟩
 ·omega
 obtain rfl:=hv g _ _ hu
 have hfl0:flat.length=rows.length*n:=hown.1
 have hkn:k*n+n≤rows.length*n:=by
  have:(k+1)*n≤rows.length*n:=Nat.mul_le_mul_right n hkl
  rwa [Nat.add_mul,Nat.one_mul] at this
 have hcn:rows.length*n≤cap*n:=Nat.mul_le_mul_right n hle
 have hrun:=z2i (P:=P) (off:=k*n+off) (v:=a.eval y) hg (by rw [k1];exact hsz) (by rw [k1,hcs];omega) k3
 obtain ⟨arr',g1,g2,g3⟩:=z0D (a.eval y).cells.toList (k*n+off) w cur e (0,0) hg (by simp [k1,hcs];omega)
 have hk:Kp (fun k=>k=g) w (w.setCells g (k*n+off) (a.eval y).cells.toList):=z09 (D:=fun k=>k=g) rfl _ _ _
 have hDb:Dm L loc g := .inr ⟨tag,_,hu,rfl⟩
 have hkd:Kp (Dm L loc) w (w.setCells g (k*n+off) (a.eval y).cells.toList):=z09 hDb _ _ _
 unfold Oper.wp
 have he:(execOp a.eval o).run P w = .ok .skip (w.setCells g (k*n+off) (a.eval y).cells.toList):=by simp [execOp,h,hax,hrun]
 rw [he]
 simp only [Oper.upon,hd]
 refine ⟨loc,?_,.turn hu rfl hk⟩
 have hsl:(a.eval y).cells.toList.length=ys.length:=by simp [k1]
 refine hrel.turn hlk hu rfl hk ⟨qM flat (k*n+off) (a.eval y).cells.toList,⟨?_,.inr ⟨g,cap,arr',?_,Nat.zero_le _,g1,?_,hmx,by rw [g3,hcs],?_⟩⟩,fun r' hr'=>?_,fun k' r' j z hk' hz=>?_,fun v hv=>?_⟩
 ·rw [qY (by rw [hsl,hfl0];omega),hfl0,List.length_set]
 ·rw [List.length_set]
 ·rw [List.length_set];exact hle
 ·rw [List.length_set,g2,z1U (by rw [hsl];omega) (by simp [hcs];omega),htk]
 ·rcases List.mem_or_eq_of_mem_set hr' with h5|h5
  ·exact hrn r' h5
  ·rw [h5,qY (by omega),hrl]
 ·rw [qK (by rw [hsl,hfl0];omega),hsl]
  rw [List.getElem?_set] at hk'
  by_cases e1:k=k'
  ·subst e1
   rw [if_pos rfl,if_pos hkl] at hk'
   cases hk'
   rw [qK (by omega)] at hz
   by_cases hc:off≤j∧j<off+ps.length
   ·rw [if_pos hc] at hz
    rw [if_pos (by omega)]
    have hz' : ys[j-off]? = some (.p z):=by rw [hys,List.getElem?_map,hz];rfl
    have h5:=k2 _ _ hz'
    have hlt:j-off<(a.eval y).cells.size:=by rw [k1];exact (List.getElem?_eq_some_iff.1 hz').1
    rw [Array.getD_eq_getD_getElem?,Array.getElem?_eq_getElem hlt,Option.getD_some] at h5
    refine ⟨(a.eval y).cells[j-off],?_,?_⟩
    ·rw [show k*n+j-(k*n+off)=j-off by omega,Array.getElem?_toList];exact Array.getElem?_eq_getElem hlt
    ·cases h5 with|p _ _ hp=>exact hp.mono hkd (fun _ _ h=>h)
   ·rw [if_neg hc] at hz
    rw [if_neg (by omega)]
    obtain ⟨v,h5,h6⟩:=hfl k r j z hr hz
    exact ⟨v,h5,h6.mono hkd (fun _ _ h=>h)⟩
  ·rw [if_neg e1] at hk'
   obtain ⟨v,h5,h6⟩:=hfl k' r' j z hk' hz
   have hjl:=(List.getElem?_eq_some_iff.1 hz).1
   rw [hrn r' (List.mem_of_getElem? hk')] at hjl
   have hne : ¬ (k*n+off≤k' * n+j∧k' * n+j<k*n+off+ys.length):=by
    rcases Nat.lt_or_gt_of_ne e1 with h7|h7
    ·have:(k+1)*n≤k' * n:=Nat.mul_le_mul_right n h7
     rw [Nat.add_mul] at this
     omega
    ·have:(k' + 1)*n≤k*n:=Nat.mul_le_mul_right n h7
     rw [Nat.add_mul] at this
     omega
   rw [if_neg hne]
   exact ⟨v,h5,h6.mono hkd (fun _ _ h=>h)⟩
 ·unfold qM at hv
  rcases List.mem_append.1 hv with h5|h5
  ·rcases List.mem_append.1 h5 with h6|h6
   ·exact hone v (List.mem_of_mem_take h6)
   ·obtain ⟨j,hj,rfl⟩:=List.mem_iff_getElem.1 h6
    have:=k3 j (by simpa using hj)
    rw [Array.getD_eq_getD_getElem?,Array.getElem?_eq_getElem (by simpa using hj),Option.getD_some] at this
    simpa using this
  ·exact hone v (List.mem_of_mem_drop h5)
theorem op_storeA (t:TypeId) (x y:Operand) (tag k:Nat) (e:Nat) (cs:List AV) (y1:AV) (h:o.op = .store t x y) (hx:s.ev x = .rptr tag 1 k 0) (hlk:s.hp.lookup tag=some (.arow e cs)) (hkl:k<cs.length)
  (hy:z0e (s.ev y)=some [y1]) (hsz:qy P t=some 1) (hd:o.dst=none):z0L P o s { s with hp:=zO s.hp tag (.arow e (cs.set k y1)) }:=fun L loc a w hrel=>by
 have h1:=hrel.ev x (fun _ _=>trivial)
 have h2:=hrel.ev y (fun _ _=>trivial)
 rw [hx] at h1
 obtain ⟨_,u,hu,hor⟩:=hrel.hp.at' tag _ hlk
 obtain ⟨flat,hown,hfl,hone⟩:=hor
 obtain ⟨k1,k2,k3⟩:=z1S h2 hy
 simp only [List.length_cons,List.length_nil,Nat.zero_add] at k1
 generalize hax:a.eval x=ax at h1
 cases h1 with
 | rptr _ _ _ _ _ _ _ hv =>
 have hown':=hown
 rcases hown.2 with ⟨_,h0⟩|⟨g,cap,cur,rfl,_,hg,hle,hmx,hcs,htk⟩
 ·omega
 obtain rfl:=hv g _ _ hu
 have hfl0:flat.length=cs.length:=by have:=hown.1;omega
 have hcn:cs.length≤cap:=hle
 have hrun:=z2i (P:=P) (off:=k*1+0) (v:=a.eval y) hg (by rw [k1];exact hsz) (by rw [k1,hcs];omega) k3
 obtain ⟨arr',g1,g2,g3⟩:=z0D (a.eval y).cells.toList (k*1+0) w cur e (0,0) hg (by simp [k1,hcs];omega)
 have hk:Kp (fun k=>k=g) w (w.setCells g (k*1+0) (a.eval y).cells.toList):=z09 (D:=fun k=>k=g) rfl _ _ _
 have hDb:Dm L loc g := .inr ⟨tag,_,hu,rfl⟩
 have hkd:Kp (Dm L loc) w (w.setCells g (k*1+0) (a.eval y).cells.toList):=z09 hDb _ _ _
 unfold Oper.wp
 have he:(execOp a.eval o).run P w = .ok .skip (w.setCells g (k*1+0) (a.eval y).cells.toList):=by simp [execOp,h,hax] at hrun ⊢;simp [hrun]
 rw [he]
 simp only [Oper.upon,hd]
 refine ⟨loc,?_,.turn hu rfl hk⟩
 have hsl:(a.eval y).cells.toList.length=1:=by simp [k1]
 refine hrel.turn hlk hu rfl hk ⟨qM flat (k*1+0) (a.eval y).cells.toList,⟨?_,.inr ⟨g,cap,arr',?_,Nat.zero_le _,g1,?_,hmx,by rw [g3,hcs],?_⟩⟩,fun j z hz=>?_,fun v hv=>?_⟩
 ·rw [qY (by rw [hsl,hfl0];omega),hfl0,List.length_set,Nat.mul_one]
 ·rw [List.length_set]
 ·rw [List.length_set];exact hle
 ·rw [List.length_set,g2,z1U (by rw [hsl];omega) (by simp [hcs];omega),htk]
 ·rw [qK (by rw [hsl,hfl0];omega),hsl]
  rw [List.getElem?_set] at hz
  by_cases e1:k=j
  ·subst e1
   rw [if_pos rfl,if_pos hkl] at hz
   cases hz
   rw [if_pos (by omega)]
   have h5:=k2 0 _ rfl
   have hlt : 0<(a.eval y).cells.size:=by omega
   rw [Array.getD_eq_getD_getElem?,Array.getElem?_eq_getElem hlt,Option.getD_some] at h5
   refine ⟨(a.eval y).cells[0],?_,?_⟩
   ·rw [show k-(k*1+0)=0 by omega,Array.getElem?_toList];exact Array.getElem?_eq_getElem hlt
   ·exact h5.mono (Nat.le_refl _) hkd (fun _ _ h=>h) (fun _ _ _ h=>h)
  ·rw [if_neg e1] at hz
   rw [if_neg (by omega)]
   obtain ⟨v,h5,h6⟩:=hfl j z hz
   exact ⟨v,h5,h6.mono (Nat.le_refl _) hkd (fun _ _ h=>h) (fun _ _ _ h=>h)⟩
 ·unfold qM at hv
  rcases List.mem_append.1 hv with h5|h5
  ·rcases List.mem_append.1 h5 with h6|h6
   ·exact hone v (List.mem_of_mem_take h6)
   ·obtain ⟨j,hj,rfl⟩:=List.mem_iff_getElem.1 h6
    have:=k3 j (by simpa using hj)
    rw [Array.getD_eq_getD_getElem?,Array.getElem?_eq_getElem (by simpa using hj),Option.getD_some] at this
    simpa using this
  ·exact hone v (List.mem_of_mem_drop h5)
theorem op_clear (x:Operand) (t tag m:Nat) (e n bytes:Nat) (zs:List Value) (rows:List (List PV)) (h:o.op = .call { callee := .builtin .clear,args := #[x],argTypes := #[t] }) (hx:s.ev x = .suf tag n m) (hlk:s.hp.lookup tag=some (.row e n rows)) (ht:zY P t=some (e,n,bytes)) (hz:zN P e=some zs)
  (hm:m<rows.length) (hd : ∀ t,o.dst=some t→t<s.n):z0L P o s (ASt.put { s with hp:=zO s.hp tag (.row e n (rows.take m++List.replicate (rows.length-m) (zs.map .val))) } o.dst (.tup [])):=fun L loc a w hrel=>by
 have h1:=hrel.ev x (fun _ _=>trivial)
 rw [hx] at h1
 obtain ⟨_,u,hu,hor⟩:=hrel.hp.at' tag _ hlk
 obtain ⟨flat,hown,hrn,hfl,hone⟩:=hor
 obtain ⟨i,z,hut,hi,hiz,hsz,hby,hzs,hn0⟩:=(z0g ht).h
 obtain ⟨i',z',hi',hiz',hzc,hzone⟩:=z0j hz
 rw [hi] at hi'
 cases hi'
 rw [hiz] at hiz'
 cases hiz'
 have hzl:zs.length=n:=by rw [← hzc,← hzs];simp
 generalize hax:a.eval x=ax at h1
 cases h1 with
 | suf _ _ _ _ _ _ hv =>
 rcases hown.2 with ⟨_,h0⟩|⟨g,cap,cur,rfl,_,hg,hle,hmx,hcs,htk⟩
 ·omega
 obtain ⟨oo,rfl,hoo⟩:=hv g _ _ hu
 obtain rfl:=hoo (by omega)
 have hfl0:flat.length=rows.length*n:=hown.1
 obtain ⟨q,hq⟩ : ∃ q,rows.length=m+(q+1):=⟨rows.length-m-1,by omega⟩
 have hzero : ∀ w:World,(zeroValue e).run P w = .ok z w:=fun w=>by simp [zeroValue,typeInfo,hi,hiz]
 have hcn:rows.length*n≤cap*n:=Nat.mul_le_mul_right n hle
 have hqn:rows.length*n=m*n+(q+1)*n:=by rw [hq,Nat.add_mul]
 have hzcell : ∀ j,j<(q+1)*n→(Builtin.zeroCells z.cells (q+1))[j]? = zs[j % n]?:=fun j hj=>by
  have hmd:j % n<z.cells.size:=by rw [hzs];exact Nat.mod_lt _ hn0
  rw [Builtin.zeroCells,Array.getElem?_map,Array.getElem?_range,hzs,if_pos hj]
  simp only [Option.map_some]
  rw [getElem!_pos z.cells _ hmd,← hzc,Array.getElem?_toList,Array.getElem?_eq_getElem hmd]
 have hzsz:(Builtin.zeroCells z.cells (q+1)).size=(q+1)*n:=by simp [Builtin.zeroCells,hzs]
 have hz1 : ∀ v ∈ (Builtin.zeroCells z.cells (q+1)).toList,v.oneCell' = true:=fun v hv=>by
  obtain ⟨j,hj,rfl⟩:=List.mem_iff_getElem.1 hv
  simp only [Array.length_toList,hzsz] at hj
  have:=hzcell j hj
  rw [← Array.getElem?_toList,List.getElem?_eq_getElem (by simpa [hzsz] using hj)] at this
  exact hzone _ (List.mem_of_getElem? this.symm)
 have hst:=run_storeCells_cells (P:=P) g (m*n) (Builtin.zeroCells z.cells (q+1)).toList 0 w (fun j hj=>by
   simp only [Array.length_toList,hzsz] at hj
   rw [Nat.add_zero,z05 hg,Array.getElem?_eq_getElem (by omega)];rfl) (fun j _=>by simp [World.frozen?,hg]) hz1
 simp only [Nat.add_zero] at hst
 have hlq:rows.length-m=q+1:=by omega
 obtain ⟨arr',g1,g2,g3⟩:=z0D (Builtin.zeroCells z.cells (q+1)).toList (m*n) w cur e (0,0) hg (by simp [hzsz,hcs];omega)
 have hk:Kp (fun k=>k=g) w (w.setCells g (m*n) (Builtin.zeroCells z.cells (q+1)).toList):=z09 (D:=fun k=>k=g) rfl _ _ _
 have hDb:Dm L loc g := .inr ⟨tag,_,hu,rfl⟩
 have hkd:Kp (Dm L loc) w (w.setCells g (m*n) (Builtin.zeroCells z.cells (q+1)).toList):=z09 hDb _ _ _
 have hrun:(Builtin.clear_ #[t] o.type #[.slice (some ⟨g,m*n,none⟩) (rows.length-m) (cap-m)]).run P w = .ok (.tuple #[]) (w.setCells g (m*n) (Builtin.zeroCells z.cells (q+1)).toList):=by
  rw [hlq]
  simp [Builtin.clear_,run_underlying hut,hzero,hst]
 unfold Oper.wp
 have he:(execOp a.eval o).run P w = .ok (.value (.tuple #[])) (w.setCells g (m*n) (Builtin.zeroCells z.cells (q+1)).toList):=by
  simp only [execOp,h,resolve,invoke,builtin,Sem.run_bind,Sem.run_pure,Result.andThen_ok,List.map_toArray,List.map_cons,List.map_nil,hax,hrun]
 rw [he]
 have hlt:(rows.take m++List.replicate (rows.length-m) (zs.map PV.val)).length=rows.length:=by simp;omega
 have hzlen:(Builtin.zeroCells z.cells (q+1)).toList.length=(q+1)*n:=by simp [hzsz]
 refine ⟨loc,Rel.put' (s := { s with hp:=zO s.hp tag (.row e n (rows.take m++List.replicate (rows.length-m) (zs.map .val))) }) (hrel.turn hlk hu rfl hk ⟨qM flat (m*n) (Builtin.zeroCells z.cells (q+1)).toList,⟨?_,.inr ⟨g,cap,arr',?_,Nat.zero_le _,g1,?_,hmx,by rw [g3,hcs],?_⟩⟩,fun r' hr'=>?_,fun k' r' j zz hk' hzz=>?_,fun v hv=>?_⟩) hd (.tup [] #[] rfl (fun j x hx=>by simp at hx)),.turn hu rfl hk⟩
 ·rw [qY (by rw [hzlen,hfl0];omega),hfl0,hlt]
 ·rw [hlt]
 ·rw [hlt];exact hle
 ·rw [hlt,g2,z1U (by rw [hzlen];omega) (by simp [hcs];omega),htk]
 ·rcases List.mem_append.1 hr' with h5|h5
  ·exact hrn r' (List.mem_of_mem_take h5)
  ·rw [(List.mem_replicate.1 h5).2,List.length_map,hzl]
 ·rw [qK (by rw [hzlen,hfl0];omega),hzlen]
  have hmt:(rows.take m).length=m:=by rw [List.length_take];omega
  by_cases hkm:k' < m
  ·rw [List.getElem?_append_left (by omega),List.getElem?_take,if_pos hkm] at hk'
   obtain ⟨v,h5,h6⟩:=hfl k' r' j zz hk' hzz
   have hjl:=(List.getElem?_eq_some_iff.1 hzz).1
   rw [hrn r' (List.mem_of_getElem? hk')] at hjl
   have:(k' + 1)*n≤m*n:=Nat.mul_le_mul_right n hkm
   rw [Nat.add_mul] at this
   rw [if_neg (by omega)]
   exact ⟨v,h5,h6.mono hkd (fun _ _ h=>h)⟩
  ·rw [List.getElem?_append_right (by omega),List.getElem?_replicate] at hk'
   split at hk'
   ·rename_i hkl
    cases hk'
    have hjl:=(List.getElem?_eq_some_iff.1 hzz).1
    simp only [List.length_map,hzl] at hjl
    obtain ⟨v,hv,rfl⟩:=Option.map_eq_some_iff.1 (by simpa using hzz:(zs[j]?).map PV.val=some zz)
    have hkk:k' * n=m*n+(k' - m)*n:=by rw [← Nat.add_mul];congr 1;omega
    have hlt2:(k' - m)*n+j<(q+1)*n:=by
     have:((k' - m)+1)*n≤(q+1)*n:=Nat.mul_le_mul_right _ (by omega)
     rw [Nat.add_mul] at this
     omega
    refine ⟨v,?_,.val v (hzone v (List.mem_of_getElem? hv))⟩
    rw [if_pos (by omega),show k' * n+j-m*n=(k' - m)*n+j by omega,Array.getElem?_toList,hzcell _ hlt2,Nat.mul_comm,Nat.mul_add_mod,Nat.mod_eq_of_lt hjl,hv]
   ·cases hk'
 ·unfold qM at hv
  rcases List.mem_append.1 hv with h5|h5
  ·rcases List.mem_append.1 h5 with h6|h6
   ·exact hone v (List.mem_of_mem_take h6)
   ·exact hz1 v h6
  ·exact hone v (List.mem_of_mem_drop h5)
theorem z8M (x y:Operand) (ty:Nat) (e n bytes:Nat) (ys:List (List PV)) (h:o.op = .call { callee := .builtin .append,args := #[x,y],argTypes := #[ty,ty] }) (hx:s.ev x = .p (.val (.slice none 0 0))) (ht:zY P ty=some (e,n,bytes)) (hy:s.ev y = .p (.seq n ys))
  (h63:ys.length≤maxLen) (hbytes:ys.length*bytes≤140737488355328) (hd : ∀ t,o.dst=some t→t<s.n):z0L P o s ((s.add (.row e n ys)).put o.dst (.own s.N)):=fun L loc a w hr=>by
 have h1:=hr.ev x (fun _ _=>trivial)
 have h2:=hr.ev y (fun _ _=>trivial)
 rw [hx] at h1
 rw [hy] at h2
 have hax:=h1.val
 generalize hay:a.eval y=ay at h2
 cases h2 with
 | p _ _ hp =>
 obtain ⟨v',w',news,hrun,hown',hg,hat,hone2,hyn,hpr⟩:=z0z (P:=P) (ty:=o.type) (z0g ht) (World.ownsRow_nil w 0 e n) hp (by simpa using h63) (by simpa using hbytes)
 simp only [Nat.zero_add,List.nil_append] at hown'
 have hb:Blw w.heap.size w w':=⟨⟨hg.os,hg.tape,hg.output,hg.size,fun k hk=>hg.block k hk (by simp [Value.ownBlock])⟩⟩
 have hv1:v'.oneCell' = true:=by rcases hown'.2 with ⟨rfl,_⟩|⟨g,c,cur,rfl,_⟩ <;> rfl
 have hu : ∀ b,ql v' = some b→w.heap.size≤b:=fun b hb'=>by
  have hb2:=z5N hown' hb'
  rcases hat with e'|e'
  ·rw [e'] at hb2;simp [Value.ownBlock] at hb2
  ·rw [e'] at hb2;cases hb2;exact Nat.le_refl _
 unfold Oper.wp
 have he:(execOp a.eval o).run P w = .ok (.value v') w':=by simp only [execOp,h,resolve,invoke,builtin,Sem.run_bind,Sem.run_pure,Result.andThen_ok,List.map_toArray,List.map_cons,List.map_nil,hax,hay,hrun]
 rw [he]
 refine ⟨qj loc s.N v',?_,.add hb _ _ hu⟩
 refine (hr.add hb v' (.row e n ys) hu ⟨news,hown',hyn,fun k r j x hk hx=>?_,hone2⟩).put' hd (.own s.N _ (Nat.lt_succ_self _) hv1 fun z hz=>?_)
 ·obtain ⟨v,h5,h6⟩:=hpr k r j x hk hx
  exact ⟨v,h5,h6.mono (.of_below hb) (fun k hk hd=>(z19 hd).resolve_left fun e=>by have:=hu k e;omega)⟩
 ·rw [zQ] at hz;cases hz;rfl
theorem z5g (t:TypeId) (e n bytes:Nat) (h:o.op = .buildSlice t 0 #[]) (ht:zY P t=some (e,n,bytes)) (hd : ∀ t,o.dst=some t→t<s.n):z0L P o s ((s.add (.row e n [])).put o.dst (.own s.N)):=fun L loc a w hr=>by
 obtain ⟨i,z,hu,hi,hiz,hsz,hby,hzs,hn0⟩:=(z0g ht).h
 have hnr : ∀ c:Array Value,(newRow e c).run P w = .ok ⟨w.heap.size,0,none⟩ (w.alloc (.cells c e)):=fun c=>by simp [newRow]
 have hrun:(Instr.buildSlice t 0 #[]).run P w = .ok (.slice (some ⟨w.heap.size,0,none⟩) 0 0) (w.alloc (.cells #[] e)):=by
  unfold Instr.buildSlice
  have h1:Instr.fill (fun i=>some (i*n,n)) ((Array.range (0*n)).map fun j=>(#[] : Array Value)[j % (#[] : Array Value).size]!) (#[] : Array (Nat × Value)).toList=some #[]:=by
   simp [Instr.fill]
  have hm : ¬ (0*n > 2 ^ 24):=by omega
  simp only [Sem.run_bind,run_underlying hu,Result.andThen_ok,sizeOf,typeInfo,run_program,hi,hsz,Sem.run_pure,if_neg hm,if_pos (Nat.zero_mul n),h1,hnr]
 have hb:Blw w.heap.size w (w.alloc (.cells #[] e)):=(Blw.refl _ _).alloc (Nat.le_refl _) _
 have hu0 : ∀ b,ql (.slice (some ⟨w.heap.size,0,none⟩) 0 0)=some b→w.heap.size≤b:=fun b e=>by cases e;exact Nat.le_refl _
 unfold Oper.wp
 have he:(execOp a.eval o).run P w = .ok (.value (.slice (some ⟨w.heap.size,0,none⟩) 0 0)) (w.alloc (.cells #[] e)):=by simp only [execOp,h,List.map_toArray,List.map_nil,Sem.run_bind,hrun,Result.andThen_ok,Sem.run_pure]
 rw [he]
 refine ⟨qj loc s.N (.slice (some ⟨w.heap.size,0,none⟩) 0 0),?_,.add hb _ _ hu0⟩
 refine (hr.add hb _ (.row e n []) hu0 ⟨[],⟨by simp,.inr ⟨w.heap.size,0,#[],rfl,Nat.zero_le _,qR w _ _ rfl,Nat.le_refl _,by simp [maxLen],by simp,by simp⟩⟩,fun r h=>(by cases h),fun k r j x h=>(by simp at h),fun v h=>(by cases h)⟩).put' hd (.own s.N _ (Nat.lt_succ_self _) rfl fun z hz=>?_)
 rw [zQ] at hz;cases hz;rfl
end
end Go.Proofs.YtbkkginjfnjffaaGreatDoor
namespace Go.Proofs.YtbkkginjfnjffaaGreatDoor
open Go.RowKit Go.Sort Go.Maps Go.ChangeMaps Go.MapKept Go.WideShapes
open Go.WideElems (Fit rd rg pl rd_key rd_val rg_of other_key)
def z1R (P:Program) (o:Oper) (s:ASt) (K:ASt→Prop):Prop := ∀ L loc a w,Rel All L s loc a w→o.wp P a w (fun a' w' => ∃ s' loc',K s' ∧ Rel All L s' loc' a' w' ∧ Ext loc w loc' w') (fun _ _ _=>False)
theorem TL.effG {P:Program} {ops:Array Oper} {Q:Exit→ASt→Prop} {rest:List Oper} {o:Oper} {s:ASt} (hw:z3a ops o s) (h:z1R P o s (TL P ops Q rest)):TL P ops Q (o :: rest) s:=fun L loc a w hr=>by
 unfold wpList
 rw [hw.spec (hr.sub fun _ _=>trivial),if_pos rfl]
 refine .inl (z2f (fun a' w' ⟨s',loc',h0,h1,h2⟩=>?_) (fun _ _ _ h=>h.elim) (h L loc a w hr))
 exact z0k (fun _ _ _ k=>k.ext h2) rest a' w' (h0 L loc' a' w' h1)
def z5Q:List AV→Option (List Value)
 | []=>some []
 | .p (.val v) :: r=>(z5Q r).map (v :: ·)
 | _=>none
def aval:AV→Option Value
 | .p (.val v)=>some v
 | .agg cs=>(z5Q cs).map fun l => .agg l.toArray
 | _=>none
theorem z5j {N:Nat} {D:Nat→Prop} {loc:Nat→Option Value} {w:World} : ∀ {cs:List AV} {l vs:List Value},z5Q cs=some l→vs.length=cs.length→(∀ (j:Nat) x v,cs[j]? = some x→vs[j]? = some v→AR N D loc w x v)→vs=l
 | [],l,vs,h,hl,_=>by cases h;exact List.eq_nil_of_length_eq_zero hl
 | c :: cs,l,vs,h,hl,ha=>by
  cases vs with
  | nil=>cases hl
  | cons v vs =>
   cases c with
   | p x =>
    cases x with
    | val v' =>
     simp only [z5Q] at h
     obtain ⟨l',h1,rfl⟩:=Option.map_eq_some_iff.1 h
     have e1:v=v':=(ha 0 _ v rfl rfl).val
     have e2:=z5j (vs:=vs) h1 (by simpa using hl) fun j x u hx hu=>ha (j+1) x u (by simpa using hx) (by simpa using hu)
     rw [e1,e2]
    | seq n rows=>simp [z5Q] at h
   | _=>simp [z5Q] at h
theorem AR.aval {N:Nat} {D:Nat→Prop} {loc:Nat→Option Value} {w:World} {x:AV} {u v:Value} (h:AR N D loc w x v) (hx:aval x=some u):v=u:=by
 unfold Go.Proofs.YtbkkginjfnjffaaGreatDoor.aval at hx
 split at hx
 ·cases hx;exact h.val
 ·rename_i cs
  obtain ⟨l,hl,rfl⟩:=Option.map_eq_some_iff.1 hx
  cases h with
  | agg _ vs hvl hva h1 =>
  have:=z5j (vs:=vs.toList) hl (by simpa using hvl) fun j x v hx hv=>by
   have h5:=hva j x hx
   have h6:vs[j]? = some v:=by simpa using hv
   rw [Array.getD_eq_getD_getElem?,h6] at h5
   exact h5
  rw [← this]
 ·cases hx
def z0G (P:Program) (t:TypeId):Option (TypeId × TypeId × Value):=match P.underlying t with
 | some (.map k e)=>match (P.info? e).bind (·.zero) with
  | some z=>some (k,e,z)
  | none=>none
 | _=>none
theorem z0x {P:Program} {t k e:TypeId} {z:Value} (h:z0G P t=some (k,e,z)):P.underlying t=some (.map k e) ∧ ∀ w,(zeroValue e).run P w = .ok z w:=by
 unfold z0G at h
 split at h
 ·rename_i k' e' hu
  split at h
  ·rename_i z' hz
   cases h
   obtain ⟨i,hi,hiz⟩:=Option.bind_eq_some_iff.1 hz
   exact ⟨hu,fun w=>by simp [zeroValue,typeInfo,hi,hiz]⟩
  ·cases h
 ·cases h
noncomputable def updF (f:Lit→Option Value) (kl:Lit) (x:Option Value):Lit→Option Value:=open Classical in fun l=>if l=kl then x else f l
theorem z2l (f:Lit→Option Value) (kl:Lit) (x:Option Value):updF f kl x kl=x:=by simp [updF]
theorem z2k (f:Lit→Option Value) {kl l:Lit} (x:Option Value) (h:l ≠ kl):updF f kl x l=f l:=by simp [updF,h]
theorem z2H.empty:z2H (.map []) (fun _=>none):=fun kl _ z=>atKey_of_not_has rfl z
theorem z2H.has {D:DataW Value} {f:Lit→Option Value} (h:z2H D f) {kl:Lit} (hk:WideAt.IsKeyLit kl):Maps.has D kl=(f kl).isSome:=by
 have h1:=h kl hk
 cases hf:f kl with
 | none=>rw [hf] at h1;exact has_false_of_atKey h1
 | some v=>rw [hf] at h1;exact has_true_of_atKey h1
theorem z2H.put {D:DataW Value} {f:Lit→Option Value} (h:z2H D f) (hD:IsMap D) {kl:Lit} (hk:WideAt.IsKeyLit kl) (v:Value):z2H (D.put kl (.held v)) (updF f kl (some v)):=fun l hl z=>by
 by_cases e:l=kl
 ·subst e;rw [z2l];exact atKey_put_same hD hk _ z
 ·rw [z2k _ _ e,atKey_put_other e];exact h l hl z
theorem z2H.del {D:DataW Value} {f:Lit→Option Value} (h:z2H D f) (kl:Lit):z2H (D.del kl) (updF f kl none):=fun l hl z=>by
 by_cases e:l=kl
 ·subst e;rw [z2l];exact atKey_del_same z
 ·rw [z2k _ _ e,atKey_del_other e];exact h l hl z
section
variable {P:Program} {ops:Array Oper} {o:Oper} {s:ASt}
theorem z8U (t k e:TypeId) (z:Value) (h:o.op = .makeMap t none) (ht:z0G P t=some (k,e,z)) (hd : ∀ t,o.dst=some t→t<s.n):z0L P o s ((s.add (.map none P k 0 fun _=>none)).put o.dst (.own s.N)):=fun L loc a w hr=>by
 have hb:Blw w.heap.size w (w.alloc (.map #[] 0)):=(Blw.refl _ _).alloc (Nat.le_refl _) _
 have hu : ∀ b,ql (.map (some w.heap.size))=some b→w.heap.size≤b:=fun b e=>by cases e;exact Nat.le_refl _
 unfold Oper.wp
 have he:(execOp a.eval o).run P w = .ok (.value (.map (some w.heap.size))) (w.alloc (.map #[] 0)):=by simp [execOp,h,run_makeMap]
 rw [he]
 refine ⟨qj loc s.N (.map (some w.heap.size)),?_,.add hb _ _ hu⟩
 refine (hr.add hb _ (.map none P k 0 fun _=>none) hu ⟨w.heap.size,.map [],rfl,World.ownsMap_made w P k z2L,z2H.empty,fun p e=>by cases e⟩).put' hd (.own s.N _ (Nat.lt_succ_self _) rfl fun z hz=>?_)
 rw [zQ] at hz;cases hz;rfl
theorem z7n (t k e:TypeId) (z:Value) (x:Operand) (q:IntKind) (n:Int) (h:o.op = .makeMap t (some x)) (hx:s.ev x = .p (.val (.int q n))) (ht:z0G P t=some (k,e,z)) (hd : ∀ t,o.dst=some t→t<s.n):z0L P o s ((s.add (.map none P k 0 fun _=>none)).put o.dst (.own s.N)):=fun L loc a w hr=>by
 have hb:Blw w.heap.size w (w.alloc (.map #[] 0)):=(Blw.refl _ _).alloc (Nat.le_refl _) _
 have hu : ∀ b,ql (.map (some w.heap.size))=some b→w.heap.size≤b:=fun b e=>by cases e;exact Nat.le_refl _
 have h1:=hr.ev x (fun _ _=>trivial)
 rw [hx] at h1
 have hv:=h1.val
 have hu':=(z0x ht).1
 unfold Oper.wp
 have he:(execOp a.eval o).run P w = .ok (.value (.map (some w.heap.size))) (w.alloc (.map #[] 0)):=by simp [execOp,h,hv,Instr.makeMap,run_underlying hu',asInt,asIntOf]
 rw [he]
 refine ⟨qj loc s.N (.map (some w.heap.size)),?_,.add hb _ _ hu⟩
 refine (hr.add hb _ (.map none P k 0 fun _=>none) hu ⟨w.heap.size,.map [],rfl,World.ownsMap_made w P k z2L,z2H.empty,fun p e=>by cases e⟩).put' hd (.own s.N _ (Nat.lt_succ_self _) rfl fun z hz=>?_)
 rw [zQ] at hz;cases hz;rfl
theorem z6A (eq:Bool) (t t' : TypeId) (x y:Operand) (tag n:Nat) (pin:Option Nat) (Q:Program) (k:TypeId) (f:Lit→Option Value) (h:o.op = .binOp (if eq=true then .eql else .neq) t x y t') (hx:s.ev x = .own tag) (hy:s.ev y = .p (.val (.map none))) (hlk:s.hp.lookup tag=some (.map pin Q k n f)) (ht:(z0G P t).isSome=true):qB P ops o s (.bool (!eq)) := .pure fun L loc a w hr=>by
 have h1:=hr.ev x (zJ (by simp [h,Op.operands]))
 have h2:=hr.ev y (zJ (by simp [h,Op.operands]))
 rw [hx] at h1
 rw [hy] at h2
 have hv2:=h2.val
 obtain ⟨_,u,hu,b,D,rfl,_⟩:=hr.hp.at' tag _ hlk
 generalize hax:a.eval x=ax at h1
 cases h1 with
 | own _ _ _ _ hv =>
 obtain rfl:=hv _ hu
 obtain ⟨⟨k',e',z'⟩,hm⟩:=Option.isSome_iff_exists.1 ht
 have hu':=(z0x hm).1
 have h0 : ∀ d:Nat,(Op.equalIn (d+1) t (.map (some b)) (.map none)).run P w = .ok false w:=fun d=>by simp [Op.equalIn,run_underlying hu']
 have hg : ∀ op,(eqGuard op t x y (.map (some b)) (.map none)).run P w = .ok () w:=fun op=>by cases op <;> simp [eqGuard]
 have hbE:(binOp .eql t (.map (some b)) (.map none)).run P w = .ok (.bool false) w:=by simp only [binOp];simp [Op.equal,Op.maxDepth,h0 9999]
 have hbN:(binOp .neq t (.map (some b)) (.map none)).run P w = .ok (.bool true) w:=by simp only [binOp];simp [Op.equal,Op.maxDepth,h0 9999]
 cases eq with
 | true=>exact ⟨_,by simp [execOp,h,hax,hv2,hg,hbE],.qC _ rfl⟩
 | false=>exact ⟨_,by simp [execOp,h,hax,hv2,hg,hbN],.qC _ rfl⟩
theorem z0q {X:Nat→Prop} {L:Lim} {loc:Nat→Option Value} {a:Act} {w:World} (hr:Rel X L s loc a w) {x:Operand} (hX : ∀ t,x = .tmp t→X t) {tag:Nat} {ob:AO} (hx:s.ev x = .own tag) (hlk:s.hp.lookup tag=some ob):tag<s.N ∧ ∃ u,loc tag=some u∧a.eval x=u∧OR s.N (Dm L loc) loc w u ob:=by
 have h1:=hr.ev x hX
 rw [hx] at h1
 obtain ⟨htN,u,hu,hor⟩:=hr.hp.at' tag _ hlk
 generalize a.eval x=ax at h1
 cases h1 with
 | own _ _ _ _ hv=>exact ⟨htN,u,hu,hv u hu,hor⟩
theorem z6z (t:TypeId) (x i:Operand) (ok:Bool) (tag n:Nat) (pin:Option Nat) (k e:TypeId) (z key:Value) (kl:Lit) (f:Lit→Option Value) (h:o.op = .lookup t x i ok) (ht:z0G P t=some (k,e,z)) (hx:s.ev x = .own tag) (hlk:s.hp.lookup tag=some (.map pin P k n f))
  (K:Keyed P k) (hi:aval (s.ev i)=some key) (hk:keyOf P k key=some kl):qB P ops o s (if ok then .tup [cv ((f kl).getD z),.p (.val (.bool (f kl).isSome))] else cv ((f kl).getD z)) := .pure fun L loc a w hr=>by
 obtain ⟨_,u,hu,hax,b,D,rfl,hown,hmk,_⟩:=z0q hr (zJ (by simp [h,Op.operands])) hx hlk
 have hiv:=(hr.ev i (zJ (by simp [h,Op.operands]))).aval hi
 obtain ⟨hty,hz⟩:=z0x ht
 have hD:=hmk kl (K.key hk) (.held z)
 have hval : ∀ {v:Value} {ps:List MemPlace},z2L v=some (D.atKey kl (.held z),ps)→v=(f kl).getD z:=fun {v ps} hv=>by
  simp only [z2L,Option.some.injEq,Prod.mk.injEq] at hv
  rw [hD] at hv
  cases hf:f kl with
  | none=>rw [hf] at hv;simpa using hv.1
  | some y=>rw [hf] at hv;simpa using hv.1
 cases ok with
 | false =>
  obtain ⟨v,ps,hrun,hv⟩:=hown.lookup K hty (hz w) (zd := .held z) (zp := []) rfl hk
  obtain rfl:=hval hv
  exact ⟨_,by simp [execOp,h,hax,hiv,hrun],z5u _ _ _ _ _⟩
 | true =>
  obtain ⟨v,ps,hrun,hv⟩:=hown.look_ok K hty (hz w) (zd := .held z) (zp := []) rfl hk
  obtain rfl:=hval hv
  rw [hmk.has (K.key hk)] at hrun
  refine ⟨_,by simp [execOp,h,hax,hiv,hrun];rfl,.tup _ _ rfl fun j x hj=>?_⟩
  match j,hj with
  | 0,hj=>cases hj;exact z5u _ _ _ _ _
  | 1,hj=>cases hj;exact .qC _ rfl
theorem z14 {w w' : World} {b:Nat} (h:w.mapTurned w' b):Kp (fun k=>k=b) w w' :=
 let g:=h.grown;⟨g.os,g.tape,g.output,g.size,fun k hk hn=>g.block k hk (fun e=>hn (by cases e;rfl))⟩
theorem z6B (t:TypeId) (x i y:Operand) (tag n:Nat) (pin:Option Nat) (k e:TypeId) (z key val:Value) (kl:Lit) (f:Lit→Option Value) (h:o.op = .mapUpdate t x i y) (ht:z0G P t=some (k,e,z)) (hx:s.ev x = .own tag) (hlk:s.hp.lookup tag=some (.map pin P k n f))
  (K:Keyed P k) (hi:aval (s.ev i)=some key) (hk:keyOf P k key=some kl) (hy:aval (s.ev y)=some val) (hn:n<maxLen) (hd:o.dst=none):z0L P o s { s with hp:=zO s.hp tag (.map pin P k (n+1) (updF f kl (some val))) }:=fun L loc a w hr=>by
 obtain ⟨_,u,hu,hax,b,D,rfl,hown,hmk,hpin⟩:=z0q hr (fun _ _=>trivial) hx hlk
 have hiv:=(hr.ev i (fun _ _=>trivial)).aval hi
 have hyv:=(hr.ev y (fun _ _=>trivial)).aval hy
 obtain ⟨hty,hz⟩:=z0x ht
 obtain ⟨w',hrun,hown',htn⟩:=hown.store K hty hn (val:=val) (d := .held val) (ps := []) hk rfl
 unfold Oper.wp
 have he:(execOp a.eval o).run P w = .ok .skip w':=by simp [execOp,h,hax,hiv,hyv,hrun]
 rw [he]
 simp only [Oper.upon,hd]
 exact ⟨loc,hr.turn hlk hu rfl (z14 htn) ⟨b,_,rfl,hown',hmk.put hown.isMap (K.key hk) val,hpin⟩,.turn hu rfl (z14 htn)⟩
theorem op_delete (t k' : TypeId) (x i:Operand) (tag n:Nat) (pin:Option Nat) (k e:TypeId) (z key:Value) (kl:Lit) (f:Lit→Option Value) (h:o.op = .call { callee := .builtin .delete,args := #[x,i],argTypes := #[t,k'] }) (hkk:k' = k) (ht:z0G P t=some (k,e,z)) (hx:s.ev x = .own tag) (hlk:s.hp.lookup tag=some (.map pin P k n f))
  (K:Keyed P k) (hi:aval (s.ev i)=some key) (hk:keyOf P k key=some kl) (hd : ∀ t,o.dst=some t→t<s.n):z0L P o s (ASt.put { s with hp:=zO s.hp tag (.map pin P k n (updF f kl none)) } o.dst (.tup [])):=fun L loc a w hr=>by
 subst hkk
 obtain ⟨_,u,hu,hax,b,D,rfl,hown,hmk,hpin⟩:=z0q hr (fun _ _=>trivial) hx hlk
 have hiv:=(hr.ev i (fun _ _=>trivial)).aval hi
 obtain ⟨hty,hz⟩:=z0x ht
 obtain ⟨w',hrun,hown',htn⟩:=hown.drop K hty hk o.type
 unfold Oper.wp
 have he:(execOp a.eval o).run P w = .ok (.value (.tuple #[])) w':=by
  simp only [execOp,h,resolve,invoke,builtin,Sem.run_bind,Sem.run_pure,Result.andThen_ok,List.map_toArray,List.map_cons,List.map_nil,hax,hiv,hrun]
 rw [he]
 refine ⟨loc,Rel.put' (s := { s with hp:=zO s.hp tag (.map pin P k' n (updF f kl none)) }) (hr.turn hlk hu rfl (z14 htn) ⟨b,_,rfl,hown',hmk.del kl,hpin⟩) hd ?_,.turn hu rfl (z14 htn)⟩
 exact .tup [] #[] rfl (fun j x hx=>by simp at hx)
noncomputable def updA (f:Lit→Option AV) (kl:Lit) (x:Option AV):Lit→Option AV:=open Classical in fun l=>if l=kl then x else f l
theorem z1w (f:Lit→Option AV) (kl:Lit) (x:Option AV):updA f kl x kl=x:=by simp [updA]
theorem z3E (f:Lit→Option AV) {kl l:Lit} (x:Option AV) (h:l ≠ kl):updA f kl x l=f l:=by simp [updA,h]
theorem z8T (t:TypeId) (x i:Operand) (ok:Bool) (tag n:Nat) (k e:TypeId) (z key:Value) (kl:Lit) (f:Lit→Option AV) (q:Option (Nat × Lit)) (h:o.op = .lookup t x i ok) (ht:z0G P t=some (k,e,z)) (hx:s.ev x = .own tag) (hlk:s.hp.lookup tag=some (.amap P k n f q))
  (K:Keyed P k) (hi:aval (s.ev i)=some key) (hk:keyOf P k key=some kl):qB P ops o s (if ok then .tup [(f kl).getD (cv z),.p (.val (.bool (f kl).isSome))] else (f kl).getD (cv z)) := .pure fun L loc a w hr=>by
 obtain ⟨_,u,hu,hax,b,D,g,rfl,hown,hmk,hfg,_⟩:=z0q hr (zJ (by simp [h,Op.operands])) hx hlk
 have hiv:=(hr.ev i (zJ (by simp [h,Op.operands]))).aval hi
 obtain ⟨hty,hz⟩:=z0x ht
 have hD:=hmk kl (K.key hk) (.held z)
 have hval : ∀ {v:Value} {ps:List MemPlace},z2L v=some (D.atKey kl (.held z),ps)→v=(g kl).getD z:=fun {v ps} hv=>by
  simp only [z2L,Option.some.injEq,Prod.mk.injEq] at hv
  rw [hD] at hv
  cases hf:g kl with
  | none=>rw [hf] at hv;simpa using hv.1
  | some y=>rw [hf] at hv;simpa using hv.1
 have hres:AR s.N (Dm L loc) loc w ((f kl).getD (cv z)) ((g kl).getD z)∧(g kl).isSome=(f kl).isSome:=by
  cases hf:f kl with
  | none=>rw [(hfg kl).2 hf];exact ⟨z5u _ _ _ _ _,rfl⟩
  | some y=>obtain ⟨v,h1,h2⟩:=(hfg kl).1 y hf;rw [h1];exact ⟨h2,rfl⟩
 cases ok with
 | false =>
  obtain ⟨v,ps,hrun,hv⟩:=hown.lookup K hty (hz w) (zd := .held z) (zp := []) rfl hk
  obtain rfl:=hval hv
  exact ⟨_,by simp [execOp,h,hax,hiv,hrun],hres.1⟩
 | true =>
  obtain ⟨v,ps,hrun,hv⟩:=hown.look_ok K hty (hz w) (zd := .held z) (zp := []) rfl hk
  obtain rfl:=hval hv
  rw [hmk.has (K.key hk)] at hrun
  refine ⟨_,by simp [execOp,h,hax,hiv,hrun];rfl,.tup _ _ rfl fun j x hj=>?_⟩
  match j,hj with
  | 0,hj=>cases hj;exact hres.1
  | 1,hj=>cases hj;rw [← hres.2];exact .qC _ rfl
theorem z5L (t:TypeId) (x i y:Operand) (tag n:Nat) (k e:TypeId) (z key:Value) (kl:Lit) (f:Lit→Option AV) (q:Option (Nat × Lit)) (h:o.op = .mapUpdate t x i y) (ht:z0G P t=some (k,e,z)) (hx:s.ev x = .own tag) (hlk:s.hp.lookup tag=some (.amap P k n f q))
  (K:Keyed P k) (hi:aval (s.ev i)=some key) (hk:keyOf P k key=some kl) (hn:n<maxLen) (hd:o.dst=none):z0L P o s { s with hp:=zO s.hp tag (.amap P k (n+1) (updA f kl (some (s.ev y))) none) }:=fun L loc a w hr=>by
 obtain ⟨_,u,hu,hax,b,D,g,rfl,hown,hmk,hfg,_⟩:=z0q hr (fun _ _=>trivial) hx hlk
 have hiv:=(hr.ev i (fun _ _=>trivial)).aval hi
 have hyv:=hr.ev y (fun _ _=>trivial)
 obtain ⟨hty,hz⟩:=z0x ht
 obtain ⟨w',hrun,hown',htn⟩:=hown.store K hty hn (val:=a.eval y) (d := .held (a.eval y)) (ps := []) hk rfl
 unfold Oper.wp
 have he:(execOp a.eval o).run P w = .ok .skip w':=by simp [execOp,h,hax,hiv,hrun]
 rw [he]
 simp only [Oper.upon,hd]
 have hkp:=z14 htn
 have hDb : ∀ k,(fun k=>k=b) k→Dm L loc k:=fun k e => .inr ⟨tag,_,hu,by rw [show k=b from e];rfl⟩
 have hmono : ∀ {x:AV} {v:Value},AR s.N (Dm L loc) loc w x v→AR s.N (Dm L loc) loc w' x v:=fun h=>h.mono (Nat.le_refl _) (hkp.wide hDb) (fun _ _ h=>h) (fun _ _ _ h=>h)
 refine ⟨loc,hr.turn hlk hu rfl hkp ⟨b,_,updF g kl (some (a.eval y)),rfl,hown',hmk.put hown.isMap (K.key hk) _,fun l=>⟨fun x hx=>?_,fun hx=>?_⟩,trivial⟩,.turn hu rfl hkp⟩
 ·by_cases e:l=kl
  ·subst e
   rw [z1w] at hx
   cases hx
   exact ⟨_,z2l _ _ _,hmono hyv⟩
  ·rw [z3E _ _ e] at hx
   obtain ⟨v,h1,h2⟩:=(hfg l).1 x hx
   exact ⟨v,by rw [z2k _ _ e,h1],hmono h2⟩
 ·by_cases e:l=kl
  ·subst e;rw [z1w] at hx;cases hx
  ·rw [z3E _ _ e] at hx;rw [z2k _ _ e];exact (hfg l).2 hx
abbrev lefts (es:Array MapEntry) (seen:Array Nat):Array MapEntry:=leftOf es seen
def z1m (P:Program) (k:TypeId) (n:Nat) (f:Lit→Option Value) (es:Array MapEntry) (ck:Nat):Prop :=
 Fit (H:=Value) P k z2L es ck∧es.size≤n∧z2H (.map ((es.toList.map (rg P k z2L)).foldr DataW.insert [])) f
theorem z1m.born {k:TypeId} {n:Nat} {f:Lit→Option Value} {es:Array MapEntry} {ck:Nat} (h:z1m P k n f es ck) : ∀ x ∈ es.toList,x.born<ck:=h.1.stamped.1
theorem z1m.nodup {k:TypeId} {n:Nat} {f:Lit→Option Value} {es:Array MapEntry} {ck:Nat} (h:z1m P k n f es ck):(es.toList.map (·.born)).Nodup:=((stamped_iff es ck).1 h.1.stamped).2.1
theorem z1m.entry {k:TypeId} {n:Nat} {f:Lit→Option Value} {es:Array MapEntry} {ck:Nat} (h:z1m P k n f es ck) (K:Keyed P k) {e:MapEntry} (he:e ∈ es.toList) : ∃ kl,keyOf P k e.key=some kl∧f kl=some e.val:=by
 obtain ⟨F,hs,hm⟩:=h
 obtain ⟨y,hy⟩:=F.reads e he
 obtain ⟨z,hz,hzd⟩:=rd_val hy
 have hkey:=rd_key hy
 refine ⟨y.1,hkey,?_⟩
 have hrg:(rg P k z2L e).1=y.1:=by rw [rg_of hy]
 have hat : ∀ zd,DataW.atKey (.map ((es.toList.map (rg P k z2L)).foldr DataW.insert [])) y.1 zd=z.1:=fun zd=>by
  rw [(atKey_sorted (es.toList.map (rg P k z2L)) (Maps.fit_rising K F) y.1 (K.key hkey)).2 (rg P k z2L e) (List.mem_map.2 ⟨e,he,rfl⟩) hrg,rg_of hy,hzd]
 cases hz
 have h1:=hm y.1 (K.key hkey) (.held default)
 have h2:=hm y.1 (K.key hkey) .nil
 rw [hat] at h1 h2
 cases hf:f y.1 with
 | none=>rw [hf] at h2;cases h2
 | some v=>rw [hf] at h1;cases h1;rfl
theorem z1m.mem {k:TypeId} {n:Nat} {f:Lit→Option Value} {es:Array MapEntry} {ck:Nat} (h:z1m P k n f es ck) (K:Keyed P k) {kl:Lit} (hk:WideAt.IsKeyLit kl) {v:Value} (hf:f kl=some v) : ∃ e ∈ es.toList,keyOf P k e.key=some kl∧e.val=v:=by
 have hh:=h.2.2.has hk
 rw [hf] at hh
 obtain ⟨p,hp,hpk⟩:=List.any_eq_true.1 hh
 obtain ⟨x,hx,rfl⟩:=List.mem_map.1 (mem_sorted.1 hp)
 obtain ⟨y,hy⟩:=h.1.reads x hx
 have e1:(rg P k z2L x).1=kl:=WideAt.sameKey_eq hpk
 rw [rg_of hy] at e1
 have e2:=rd_key hy
 rw [e1] at e2
 obtain ⟨kl',h1,h2⟩:=h.entry K hx
 rw [e2] at h1
 cases h1
 rw [hf] at h2
 cases h2
 exact ⟨x,hx,e2,rfl⟩
theorem z7e {l:List MapEntry} (hn:(l.map (·.born)).Nodup) {j:Nat} {e0:MapEntry} (h:l[j]? = some e0):l.findIdx? (fun e=>((e.born:Nat):Int)==((e0.born:Nat):Int))=some j:=by
 rw [List.findIdx?_eq_some_iff_getElem]
 obtain ⟨hj,rfl⟩:=List.getElem?_eq_some_iff.1 h
 refine ⟨hj,by simp,fun i hi=>?_⟩
 simp only [beq_iff_eq,Int.natCast_inj,Bool.not_eq_true,beq_eq_false_iff_ne,ne_eq]
 intro e
 have a1:(l.map (·.born))[i]? = some l[j].born:=by rw [List.getElem?_map,List.getElem?_eq_getElem (by omega),← e];rfl
 have a2:(l.map (·.born))[j]? = some l[j].born:=by rw [List.getElem?_map,List.getElem?_eq_getElem hj];rfl
 have:=(List.getElem?_inj (List.getElem?_eq_some_iff.1 a1).1 hn).1 (a1.trans a2.symm)
 omega
theorem z6K {α:Type} (l:List α) (j:Nat) (a : α) (h:l[j]? = some a):l.set j a=l:=by
 apply List.ext_getElem?
 intro i
 rw [List.getElem?_set]
 split
 ·rename_i e;subst e;rw [if_pos (List.getElem?_eq_some_iff.1 h).1,h]
 ·rfl
theorem z6j {P:Program} {k:TypeId} (K:Keyed P k) {n:Nat} {g:Lit→Option Value} {es:Array MapEntry} {ck:Nat} (hm:z1m P k n g es ck) (w:World) {key:Value} {kl:Lit} (hk:keyOf P k key=some kl) :
  ((Instr.findKey k key es.toList).run P w = .ok none w∧g kl=none) ∨ ∃ (j:Nat) (e:MapEntry),(Instr.findKey k key es.toList).run P w = .ok (some (j,e.val)) w∧es.toList[j]? = some e∧e.key=key∧g kl=some e.val:=by
 have hkeys : ∀ e ∈ es.toList,∃ l,keyOf P k e.key=some l:=fun e he=>let ⟨l,h,_⟩:=hm.entry K he;⟨l,h⟩
 rcases K.find w hk es.toList hkeys with ⟨h1,h2⟩|⟨j,e0,h1,h2,h3⟩
 ·refine .inl ⟨h1,?_⟩
  cases hg:g kl with
  | none=>rfl
  | some v =>
   obtain ⟨e,he,h3,_⟩:=hm.mem K (K.key hk) hg
   exact absurd (K.inj h3 hk) (h2 e he)
 ·refine .inr ⟨j,e0,h1,h2,h3,?_⟩
  obtain ⟨kl',h4,h5⟩:=hm.entry K (List.mem_of_getElem? h2)
  rw [h3,hk] at h4
  cases h4
  exact h5
theorem z7o (t:TypeId) (x i:Operand) (tag n:Nat) (k e:TypeId) (z key:Value) (kl:Lit) (f:Lit→Option AV) (q:Option (Nat × Lit)) {K0:ASt→Prop} (h:o.op = .mapEntry t x i) (ht:z0G P t=some (k,e,z)) (hx:s.ev x = .own tag) (hlk:s.hp.lookup tag=some (.amap P k n f q))
  (K:Keyed P k) (hi:aval (s.ev i)=some key) (hk:keyOf P k key=some kl) (hn:n<maxLen) (hd : ∀ t,o.dst=some t→t<s.n)
  (hK0 : ∀ st:Nat,K0 (ASt.put { s with hp:=zO s.hp tag (.amap P k (n+1) (updA f kl (some ((f kl).getD (cv z)))) (some (st,kl))) } o.dst (.tup [(f kl).getD (cv z),.p (.val (.int .i64 (st:Int)))]))):z1R P o s K0:=fun L loc a w hr=>by
 obtain ⟨_,u,hu,hax,b,D,g,rfl,hown,hmk,hfg,_⟩:=z0q hr (fun _ _=>trivial) hx hlk
 have hiv:=(hr.ev i (fun _ _=>trivial)).aval hi
 obtain ⟨hty,hz⟩:=z0x ht
 have hown0:=hown
 obtain ⟨es,ck,hb,F,hs,rfl⟩:=hown
 have hmi:z1m P k n g es ck:=⟨F,hs,hmk⟩
 have key2 : ∃ (v0:Value) (st:Nat) (w' : World),v0=(g kl).getD z∧(Instr.mapEntry t (.map (some b)) key).run P w = .ok (.tuple #[v0,goInt st]) w' ∧ (Instr.mapUpdate t (.map (some b)) key v0).run P w = .ok () w' ∧
   ∃ es1 ck1 e1,w'.heap[b]? = some (.map es1 ck1)∧e1 ∈ es1.toList∧e1.born=st∧keyOf P k e1.key=some kl:=by
  rcases z6j K hmi w hk with ⟨h1,h2⟩|⟨j,e0,h1,h2,h3,h4⟩
  ·refine ⟨z,ck,setBlock w b (.map (es.push ⟨key,z,ck⟩) (ck+1)),by rw [h2];rfl,?_,?_,es.push ⟨key,z,ck⟩,ck+1,⟨key,z,ck⟩,(heap_set hb).1,by simp,rfl,hk⟩
   ·simp [Instr.mapEntry,run_underlying hty,MapKept.run_getObj_map hb,K.check w false hk,h1,hz,MapKept.run_setObj_map _ hb,Result.andThen,setBlock]
   ·simp [Instr.mapUpdate,run_underlying hty,MapKept.run_getObj_map hb,K.check w false hk,h1,MapKept.run_setObj_map _ hb,Result.andThen,setBlock]
  ·have hj:es[j]? = some e0:=by simpa using h2
   have hsame:es.modify j (fun e => { e with key:=key })=es:=by
    apply Array.ext'
    rw [Array.toList_modify,modify_eq_set _ _ _ _ h2]
    have:({ e0 with key:=key } : MapEntry)=e0:=by rw [← h3]
    rw [this]
    exact z6K _ _ _ h2
   have hsame2:es.modify j (fun e => { e with key:=key,val:=e0.val })=es:=by
    apply Array.ext'
    rw [Array.toList_modify,modify_eq_set _ _ _ _ h2]
    have:({ e0 with key:=key,val:=e0.val } : MapEntry)=e0:=by rw [← h3]
    rw [this]
    exact z6K _ _ _ h2
   refine ⟨e0.val,e0.born,setBlock w b (.map es ck),by rw [h4];rfl,?_,?_,es,ck,e0,(heap_set hb).1,List.mem_of_getElem? h2,rfl,by rw [h3];exact hk⟩
   ·simp [Instr.mapEntry,run_underlying hty,MapKept.run_getObj_map hb,K.check w false hk,h1,hj,h3,K.stays w hk,hsame,MapKept.run_setObj_map _ hb,Result.andThen,setBlock]
   ·simp [Instr.mapUpdate,run_underlying hty,MapKept.run_getObj_map hb,K.check w false hk,h1,hj,h3,K.stays w hk,hsame2,MapKept.run_setObj_map _ hb,Result.andThen,setBlock]
 obtain ⟨v0,st,w',hv0,hrun,hrunU,hpend⟩:=key2
 obtain ⟨w2,hrun2,hown',htn⟩:=hown0.store K hty hn (val:=v0) (d := .held v0) (ps := []) hk rfl
 rw [hrunU] at hrun2
 cases hrun2
 have hkp:=z14 htn
 have hDb : ∀ k,(fun k=>k=b) k→Dm L loc k:=fun k e => .inr ⟨tag,_,hu,by rw [show k=b from e];rfl⟩
 have hmono : ∀ {x:AV} {v:Value},AR s.N (Dm L loc) loc w x v→AR s.N (Dm L loc) loc w' x v:=fun h=>h.mono (Nat.le_refl _) (hkp.wide hDb) (fun _ _ h=>h) (fun _ _ _ h=>h)
 have hres:AR s.N (Dm L loc) loc w ((f kl).getD (cv z)) v0:=by
  rw [hv0]
  cases hf:f kl with
  | none=>rw [(hfg kl).2 hf];exact z5u _ _ _ _ _
  | some y=>obtain ⟨v,h1,h2⟩:=(hfg kl).1 y hf;rw [h1];exact h2
 unfold Oper.wp
 have he:(execOp a.eval o).run P w = .ok (.value (.tuple #[v0,goInt st])) w':=by simp [execOp,h,hax,hiv,hrun]
 rw [he]
 refine ⟨_,loc,hK0 st,Rel.put' (s := { s with hp:=zO s.hp tag (.amap P k (n+1) (updA f kl (some ((f kl).getD (cv z)))) (some (st,kl))) }) (hr.turn hlk hu rfl hkp ⟨b,_,updF g kl (some v0),rfl,hown',hmk.put hown0.isMap (K.key hk) _,fun l=>⟨fun x hx=>?_,fun hx=>?_⟩,hpend⟩) hd ?_,.turn hu rfl hkp⟩
 ·by_cases e:l=kl
  ·subst e
   rw [z1w] at hx
   cases hx
   exact ⟨_,z2l _ _ _,hmono hres⟩
  ·rw [z3E _ _ e] at hx
   obtain ⟨v,h1,h2⟩:=(hfg l).1 x hx
   exact ⟨v,by rw [z2k _ _ e,h1],hmono h2⟩
 ·by_cases e:l=kl
  ·subst e;rw [z1w] at hx;cases hx
  ·rw [z3E _ _ e] at hx;rw [z2k _ _ e];exact (hfg l).2 hx
 ·refine .tup _ _ rfl fun j x hj=>?_
  match j,hj with
  | 0,hj=>cases hj;exact hmono hres
  | 1,hj=>cases hj;exact .qC _ rfl
theorem z5K (t:TypeId) (x i y:Operand) (tag n st:Nat) (k e:TypeId) (z:Value) (kl:Lit) (f:Lit→Option AV) (h:o.op = .entryStore t x i y) (ht:z0G P t=some (k,e,z)) (hx:s.ev x = .own tag) (hlk:s.hp.lookup tag=some (.amap P k n f (some (st,kl))))
  (K:Keyed P k) (hi:s.ev i = .p (.val (.int .i64 (st:Int)))) (hn:n<maxLen) (hd:o.dst=none):z0L P o s { s with hp:=zO s.hp tag (.amap P k (n+1) (updA f kl (some (s.ev y))) none) }:=fun L loc a w hr=>by
 obtain ⟨_,u,hu,hax,b,D,g,rfl,hown,hmk,hfg,es',ck',e1,hb',he1,hborn,hkey⟩:=z0q hr (fun _ _=>trivial) hx hlk
 have hiv0:=hr.ev i (fun _ _=>trivial)
 rw [hi] at hiv0
 have hiv:=hiv0.val
 have hyv:=hr.ev y (fun _ _=>trivial)
 obtain ⟨hty,hz⟩:=z0x ht
 obtain ⟨w',hrunU,hown',htn⟩:=hown.store K hty hn (val:=a.eval y) (d := .held (a.eval y)) (ps := []) hkey rfl
 obtain ⟨es,ck,hb,F,hs,rfl⟩:=hown
 obtain ⟨rfl,rfl⟩ : es=es' ∧ ck=ck':=by rw [hb] at hb';simpa using hb'
 have hmi:z1m P k n g es ck:=⟨F,hs,hmk⟩
 obtain ⟨s1,s2,s3⟩:=F.stamped
 have hrun:(Instr.entryStore t (.map (some b)) (.int .i64 (st:Int)) (a.eval y)).run P w = .ok () w':=by
  rcases z6j K hmi w hkey with ⟨h1,h2⟩|⟨j,e0,h1,h2,h3,h4⟩
  ·obtain ⟨kl',g1,g2⟩:=hmi.entry K he1
   rw [hkey] at g1;cases g1
   rw [h2] at g2;cases g2
  ·have hj:es[j]? = some e0:=by simpa using h2
   have hbe:e0.born=st:=by
    have:e0=e1:=by
     obtain ⟨i1,hi1⟩:=List.mem_iff_getElem?.1 he1
     have a1:(es.toList.map (·.key))[j]? = some e1.key:=by rw [List.getElem?_map,h2,← h3];rfl
     have a2:(es.toList.map (·.key))[i1]? = some e1.key:=by rw [List.getElem?_map,hi1];rfl
     have:=(List.getElem?_inj (List.getElem?_eq_some_iff.1 a1).1 s3).1 (a1.trans a2.symm)
     subst this
     rw [h2] at hi1
     cases hi1;rfl
    rw [this];exact hborn
   have hidx:es.findIdx? (fun e=>((e.born:Nat):Int)==(st:Int))=some j:=by
    have:=z7e s2 h2
    rw [hbe] at this
    rw [show es.findIdx? (fun e=>((e.born:Nat):Int)==(st:Int))=es.toList.findIdx? (fun e=>((e.born:Nat):Int)==(st:Int)) by cases es;simp]
    exact this
   have hmod:es.modify j (fun e => { e with val:=a.eval y })=es.modify j (fun e' => { e' with key:=e1.key,val:=a.eval y }):=by
    apply Array.ext'
    rw [Array.toList_modify,Array.toList_modify,modify_eq_set _ _ _ _ h2,modify_eq_set _ _ _ _ h2,← h3]
   have hU:(Instr.mapUpdate t (.map (some b)) e1.key (a.eval y)).run P w = .ok () (setBlock w b (.map (es.modify j (fun e' => { e' with key:=e1.key,val:=a.eval y })) ck)):=by
    simp [Instr.mapUpdate,run_underlying hty,MapKept.run_getObj_map hb,K.check w false hkey,h1,hj,h3,K.stays w hkey,MapKept.run_setObj_map _ hb,Result.andThen,setBlock]
   rw [hrunU] at hU
   cases hU
   simp [Instr.entryStore,MapKept.run_getObj_map hb,asInt,asIntOf,hidx,hmod,MapKept.run_setObj_map _ hb,Result.andThen,setBlock]
 unfold Oper.wp
 have he:(execOp a.eval o).run P w = .ok .skip w':=by simp [execOp,h,hax,hiv,hrun]
 rw [he]
 simp only [Oper.upon,hd]
 have hkp:=z14 htn
 have hDb : ∀ k,(fun k=>k=b) k→Dm L loc k:=fun k e => .inr ⟨tag,_,hu,by rw [show k=b from e];rfl⟩
 have hmono : ∀ {x:AV} {v:Value},AR s.N (Dm L loc) loc w x v→AR s.N (Dm L loc) loc w' x v:=fun h=>h.mono (Nat.le_refl _) (hkp.wide hDb) (fun _ _ h=>h) (fun _ _ _ h=>h)
 refine ⟨loc,hr.turn hlk hu rfl hkp ⟨b,_,updF g kl (some (a.eval y)),rfl,hown',hmk.put ⟨_,rfl⟩ (K.key hkey) _,fun l=>⟨fun x hx=>?_,fun hx=>?_⟩,trivial⟩,.turn hu rfl hkp⟩
 ·by_cases e:l=kl
  ·subst e
   rw [z1w] at hx
   cases hx
   exact ⟨_,z2l _ _ _,hmono hyv⟩
  ·rw [z3E _ _ e] at hx
   obtain ⟨v,h1,h2⟩:=(hfg l).1 x hx
   exact ⟨v,by rw [z2k _ _ e,h1],hmono h2⟩
 ·by_cases e:l=kl
  ·subst e;rw [z1w] at hx;cases hx
  ·rw [z3E _ _ e] at hx;rw [z2k _ _ e];exact (hfg l).2 hx
theorem op_range (t:TypeId) (x:Operand) (tag n:Nat) (pin:Option Nat) (k e:TypeId) (z:Value) (f:Lit→Option Value) {K:ASt→Prop} (h:o.op = .range t x) (ht:z0G P t=some (k,e,z)) (hx:s.ev x = .own tag) (hlk:s.hp.lookup tag=some (.map pin P k n f)) (hd : ∀ t,o.dst=some t→t<s.n)
  (hK : ∀ b r es ck,z1m P k n f es ck→(∀ q,pin=some q→q=b)→K (ASt.put { s with hp:=(s.N,.raw (.pointer (some ⟨r,0,none⟩)) (.mapIter (some b) ck #[] ck)) :: zO s.hp tag (.raw (.map (some b)) (.map es ck)),N:=s.N+1 } o.dst (.own s.N))):z1R P o s K:=fun L loc a w hr=>by
 obtain ⟨_,u,hu,hax,b,D,rfl,⟨es,ck,hb,F,hs,rfl⟩,hmk,hpin⟩:=z0q hr (fun _ _=>trivial) hx hlk
 obtain ⟨hty,hz⟩:=z0x ht
 have hrun:=run_range_map w t k e b es ck hty hb
 have hbl:Blw w.heap.size w (w.alloc (.mapIter (some b) ck #[] ck)):=(Blw.refl _ _).alloc (Nat.le_refl _) _
 have hup : ∀ c,ql (.pointer (some ⟨w.heap.size,0,none⟩))=some c→w.heap.size≤c:=fun c e=>by cases e;exact Nat.le_refl _
 unfold Oper.wp
 have he:(execOp a.eval o).run P w = .ok (.value (.pointer (some ⟨w.heap.size,0,none⟩))) (w.alloc (.mapIter (some b) ck #[] ck)):=by simp [execOp,h,hax,hrun]
 rw [he]
 have r1:Rel All L { s with hp:=zO s.hp tag (.raw (.map (some b)) (.map es ck)) } loc a w:=hr.turn hlk hu rfl (Kp.refl _ _) ⟨b,rfl,rfl,hb⟩
 have r2:=r1.add hbl (.pointer (some ⟨w.heap.size,0,none⟩)) (.raw (.pointer (some ⟨w.heap.size,0,none⟩)) (.mapIter (some b) ck #[] ck)) hup ⟨w.heap.size,rfl,rfl,qR w _ _ rfl⟩
 refine ⟨_,qj loc s.N (.pointer (some ⟨w.heap.size,0,none⟩)),hK b w.heap.size es ck ⟨F,hs,hmk⟩ hpin,r2.put' hd (.own s.N _ (Nat.lt_succ_self _) rfl fun z hz=>?_),.add hbl _ _ hup⟩
 rw [zQ] at hz;cases hz;rfl
theorem z7h {w w1:World} (hw:w1=w∨w1=w.drew) (r:Nat) {ob0:Obj} (h0:w.heap[r]? = some ob0) (ob:Obj):Kp (fun k=>k=r) w (setBlock w1 r ob):=by
 have h2:=heap_set (o':=ob) h0
 rcases hw with rfl|rfl <;> exact ⟨rfl,rfl,rfl,by simp [setBlock],fun i _ hi=>h2.2 i hi⟩
theorem op_next (x:Operand) (ti tm r b since c0:Nat) (seen:Array Nat) (es:Array MapEntry) (ck:Nat) {K:ASt→Prop} (h:o.op = .next x false) (hx:s.ev x = .own ti) (hlk:s.hp.lookup ti=some (.raw (.pointer (some ⟨r,0,none⟩)) (.mapIter (some b) since seen c0)))
  (hlm:s.hp.lookup tm=some (.raw (.map (some b)) (.map es ck))) (hold : ∀ x ∈ es.toList,x.born<since) (hsc:since≤c0) (hd : ∀ t,o.dst=some t→t<s.n)
  (hK0:(leftOf es seen).size=0→K (s.put o.dst (.tup [.p (.val (.bool false))])))
  (hK1 : ∀ e ∈ (leftOf es seen).toList,K (ASt.put { s with hp:=zO s.hp ti (.raw (.pointer (some ⟨r,0,none⟩)) (.mapIter (some b) since (seen.push e.born) ck)) } o.dst (.tup [.p (.val (.bool true)),cv e.key,cv e.val]))):z1R P o s K:=fun L loc a w hr=>by
 obtain ⟨_,u,hu,hax,r',rfl,hr',hrb⟩:=z0q hr (fun _ _=>trivial) hx hlk
 cases hr'
 obtain ⟨_,um,hum,b',rfl,hb',hbb⟩:=hr.hp.at' tm _ hlm
 cases hb'
 unfold Oper.wp
 have he : ∀ v w',(Instr.next (.pointer (some ⟨r,0,none⟩)) false o.type).run P w = .ok v w' → (execOp a.eval o).run P w = .ok (.value v) w':=fun v w' hv=>by simp [execOp,h,hax,hv]
 rcases run_next_at (P:=P) w o.type r b since c0 seen es ck hrb hbb hold hsc with ⟨h0,hrun⟩|⟨e,hem,w1,hw1,hrun⟩
 ·rw [he _ _ hrun]
  refine ⟨_,loc,hK0 h0,hr.put' hd (.tup _ _ rfl fun j x hj=>?_),Ext.refl _ _⟩
  match j,hj with
  | 0,hj=>cases hj;exact .qC _ rfl
 ·rw [he _ _ hrun]
  have hkp:=z7h hw1 r hrb (.mapIter (some b) since (seen.push e.born) ck)
  have hr1:w1.heap[r]? = some (.mapIter (some b) since seen c0):=by rcases hw1 with rfl|rfl <;> exact hrb
  refine ⟨_,loc,hK1 e hem,Rel.put' (s := { s with hp:=zO s.hp ti (.raw (.pointer (some ⟨r,0,none⟩)) (.mapIter (some b) since (seen.push e.born) ck)) }) (hr.turn hlk hu rfl hkp ⟨r,rfl,rfl,(heap_set (o' := .mapIter (some b) since (seen.push e.born) ck) hr1).1⟩) hd (.tup _ _ rfl fun j x hj=>?_),.turn hu rfl hkp⟩
  match j,hj with
  | 0,hj=>cases hj;exact .qC _ rfl
  | 1,hj=>cases hj;exact z5u _ _ _ _ _
  | 2,hj=>cases hj;exact z5u _ _ _ _ _
theorem op_entry (x:Operand) (ti tm r b since:Nat) (seen:Array Nat) (es:Array MapEntry) (ck:Nat) (e:MapEntry) (h:o.op = .entry x) (hx:s.ev x = .own ti) (hlk:s.hp.lookup ti=some (.raw (.pointer (some ⟨r,0,none⟩)) (.mapIter (some b) since (seen.push e.born) ck)))
  (hlm:s.hp.lookup tm=some (.raw (.map (some b)) (.map es ck))) (hem:e ∈ es.toList) (hn:(es.toList.map (·.born)).Nodup):qB P ops o s (.tup [cv e.key,cv e.val]) := .pure fun L loc a w hr=>by
 obtain ⟨_,u,hu,hax,r',rfl,hr',hrb⟩:=z0q hr (zJ (by simp [h,Op.operands])) hx hlk
 cases hr'
 obtain ⟨_,um,hum,b',rfl,hb',hbb⟩:=hr.hp.at' tm _ hlm
 cases hb'
 have hrun:=run_entry_at (P:=P) w r b since seen es ck e hrb hbb hem hn
 refine ⟨_,by simp [execOp,h,hax,hrun];rfl,.tup _ _ rfl fun j x hj=>?_⟩
 match j,hj with
 | 0,hj=>cases hj;exact z5u _ _ _ _ _
 | 1,hj=>cases hj;exact z5u _ _ _ _ _
end
theorem zi.unraw (s:ASt) (P:Program) (tag b:Nat) (k:TypeId) (n:Nat) (f:Lit→Option Value) (es:Array MapEntry) (ck:Nat) (pin:Option Nat) (hp : ∀ p,pin=some p→p=b) (hlk:s.hp.lookup tag=some (.raw (.map (some b)) (.map es ck))) (hm:z1m P k n f es ck):zi s { s with hp:=zO s.hp tag (.map pin P k n f) }:=fun L loc a w hr=>by
 obtain ⟨_,u,hu,b',rfl,hb',hbb⟩:=hr.hp.at' tag _ hlk
 cases hb'
 exact ⟨loc,hr.turn hlk hu rfl (Kp.refl _ _) ⟨b,_,rfl,⟨es,ck,hbb,hm.1,hm.2.1,rfl⟩,hm.2.2,hp⟩,Ext.refl _ _⟩
section
variable {P:Program} {ops:Array Oper} {o:Oper} {s:ASt}
theorem z8N (x y:Operand) (ty tag m:Nat) (e n bytes:Nat) (rows ys:List (List PV)) {K:ASt→Prop} (h:o.op = .call { callee := .builtin .append,args := #[x,y],argTypes := #[ty,ty] }) (hx:s.ev x = .suf tag n m) (hlk:s.hp.lookup tag=some (.row e n rows))
  (ht:zY P ty=some (e,n,bytes)) (hy:s.ev y = .p (.seq n ys)) (hys : 0<ys.length) (hm:m≤rows.length) (hr0 : 0<rows.length) (h63:rows.length+ys.length≤maxLen) (hbytes:(rows.length+ys.length)*bytes≤140737488355328) (hd : ∀ t,o.dst=some t→t<s.n)
  (hA:K (ASt.put { s.subst tag .zy with hp:=zO (s.subst tag .zy).hp tag (.row e n (rows++ys)) } o.dst (.suf tag n m))) (hB:K ((s.add (.row e n (rows.drop m++ys))).put o.dst (.own s.N))):z1R P o s K:=fun L loc a w hr=>by
 have h1:=hr.ev x (fun _ _=>trivial)
 have h2:=hr.ev y (fun _ _=>trivial)
 rw [hx] at h1
 rw [hy] at h2
 obtain ⟨htN,u,hu,hor⟩:=hr.hp.at' tag _ hlk
 obtain ⟨flat,hown,hrn,hfl,hone⟩:=hor
 generalize hax:a.eval x=ax at h1
 cases h1 with
 | suf _ _ _ _ _ _ hv =>
 generalize hay:a.eval y=ay at h2
 cases h2 with
 | p _ _ hp =>
 obtain ⟨i,z,hu',hi,hz,hsz,hby,hzs,hn0⟩:=(z0g ht).h
 have hown1:=hown
 rcases hown1.2 with ⟨_,h0⟩|⟨g,cap,cur,rfl,_,hgc,hle,hmx,hcs,htk⟩
 ·omega
 obtain ⟨oo,rfl,hoo⟩:=hv _ _ _ hu
 obtain ⟨ad,c,news,rfl,hnil,hlen,hcell,hone',hyn0,hpr0⟩:=hp.flat
 cases ad with
 | none=>obtain ⟨_,rfl⟩:=hnil rfl;simp at hys
 | some ay =>
 have hfl0:flat.length=rows.length*n:=hown.1
 by_cases hroom:rows.length+ys.length≤cap
 ·have hin : ∀ j,j<news.length→(w.cell? ⟨g,rows.length*n+j,none⟩).isSome=true∧w.frozen? ⟨g,rows.length*n+j,none⟩=false:=fun j hj=>by
   have hlt:rows.length*n+j<cur.size:=by
    rw [hcs]
    have:(rows.length+ys.length)*n≤cap*n:=Nat.mul_le_mul_right n hroom
    rw [Nat.add_mul] at this
    omega
   rw [z05 hgc,Array.getElem?_eq_getElem hlt]
   exact ⟨rfl,by simp [World.frozen?,hgc]⟩
  have hoff:oo+(rows.length-m)*n=rows.length*n:=by
   rw [hoo (by omega),← Nat.add_mul]
   congr 1;omega
  have hrunU:=run_append_room_cells (P:=P) w ty o.type e i hu' hi g 0 rows.length cap ay ys.length c news (by rw [hlen,hsz]) (hcell ay rfl) hone' hroom (fun j hj=>by rw [hsz,Nat.zero_add];exact (hin j hj).1) (fun j hj=>by rw [hsz,Nat.zero_add];exact (hin j hj).2)
  have hrunV:=run_append_room_cells (P:=P) w ty o.type e i hu' hi g oo (rows.length-m) (cap-m) ay ys.length c news (by rw [hlen,hsz]) (hcell ay rfl) hone' (by omega) (fun j hj=>by rw [hsz,hoff];exact (hin j hj).1) (fun j hj=>by rw [hsz,hoff];exact (hin j hj).2)
  obtain ⟨v',w',news',hrun,hown',hg,hat,hone2,hyn,hpr⟩:=z0z (P:=P) (ty:=o.type) (z0g ht) hown hp h63 hbytes
  rw [hsz,hoff] at hrunV
  rw [hsz,Nat.zero_add,hrun] at hrunU
  have hv' : v' = .slice (some ⟨g,0,none⟩) (rows.length+ys.length) cap:=by cases hrunU;rfl
  have hw' : w' = w.setCells g (rows.length*n) news:=by cases hrunU;rfl
  rw [← hw'] at hrunV
  have hrunS:(execOp a.eval o).run P w = .ok (.value (.slice (some ⟨g,oo,none⟩) (rows.length-m+ys.length) (cap-m))) w':=by
   simp only [execOp,h,resolve,invoke,builtin,Sem.run_bind,Sem.run_pure,Result.andThen_ok,List.map_toArray,List.map_cons,List.map_nil,hax,hay,hrunV]
  rw [show rows.length-m+ys.length=rows.length+ys.length-m by omega] at hrunS
  obtain ⟨u,rfl⟩ : ∃ u,u=Value.slice (some ⟨g,0,none⟩) rows.length cap:=⟨_,rfl⟩
  generalize hgu:Value.slice (some ⟨g,0,none⟩) rows.length cap=u at hu hown hg hat hrun
  have hblk : ∀ b,ql v' = some b→ql u=some b∨b=w.heap.size:=fun b hb=>by
   have hb':=z5N hown' hb
   rcases hat with e'|e'
   ·rw [e'] at hb';exact .inl (z0u hb')
   ·rw [e'] at hb';cases hb';exact .inr rfl
  have hDu : ∀ b,u.ownBlock=some b→Dm L loc b:=fun b hb => .inr ⟨tag,u,hu,z0u hb⟩
  have hk:Kp (Dm L loc) w w':=⟨hg.os,hg.tape,hg.output,hg.size,fun k hk hn=>hg.block k hk (fun e=>hn (hDu k e.symm))⟩
  have hD : ∀ k,k<w.heap.size→Dm L (qj loc tag v') k→Dm L loc k:=fun k hk hd=>(z19 hd).elim (fun e=>(hblk k e).elim (fun e' => .inr ⟨tag,u,hu,e'⟩) (fun e'=>by omega)) id
  have hlc : ∀ k z,k<s.N→k ≠ tag→qj loc tag v' k=some z→loc k=some z:=fun k z _ hne hz=>by rwa [zM _ _ hne] at hz
  have hv1:v'.oneCell' = true:=by rcases hown'.2 with ⟨rfl,_⟩|⟨g,c,cur,rfl,_⟩ <;> rfl
  unfold Oper.wp
  rw [hrunS]
  refine ⟨_,qj loc tag v',hA,?_,⟨⟨hg.os,hg.tape,hg.output,hg.size,fun k hk hn=>hg.block k hk (fun e=>hn (.inr ⟨tag,u,hu,z0u e.symm⟩))⟩,fun b hb=>?_⟩⟩
  ·refine Rel.put' (s := { s.subst tag .zy with hp:=zO (s.subst tag .zy).hp tag (.row e n (rows++ys)) }) ⟨hr.defers,hr.size,fun t _=>?_,⟨fun t ob ht=>?_,fun t ht=>?_,fun t t' z z' b e1 e2 e3 e4=>?_,fun b hL=>Nat.lt_of_lt_of_le (hr.hp.inL b hL) hg.size,fun t z b e1 e2 hL=>?_⟩⟩ hd (.suf tag n m _ htN rfl fun b l c hz=>?_)
   ·show AR s.N _ _ _ ((s.subst tag .zy).get t) _
    rw [ASt.z4u]
    exact (hr.fr t trivial).sub (Nat.le_refl _) hk hD hlc (fun v _ _ => .zy v)
   ·change (zO _ _ _).lookup t=some ob at ht
    rw [qL] at ht
    have hm:(s.subst tag .zy).hp.lookup tag=some ((AO.row e n rows).sub tag .zy):=by simp only [ASt.subst,qz,hlk];rfl
    by_cases e:t=tag
    ·subst e
     rw [if_pos rfl,hm] at ht
     cases ht
     refine ⟨htN,v',zQ _ _ _,flat++news',by rw [List.length_append];exact hown',fun r hr'=>(List.mem_append.1 hr').elim (hrn r) (hyn r),?_,fun v hv=>(List.mem_append.1 hv).elim (hone v) (hone2 v)⟩
     have:=z1D hown.1 hfl hpr
     exact fun k r j x h1 h2=>let ⟨v,h3,h4⟩:=this k r j x h1 h2;⟨v,h3,h4.mono hk hD⟩
    ·rw [if_neg e] at ht
     simp only [ASt.subst,qz,Option.map_eq_some_iff] at ht
     obtain ⟨ob',hob,rfl⟩:=ht
     obtain ⟨h5,z,h6,h7⟩:=hr.hp.at' t ob' hob
     refine ⟨h5,z,by rw [zM _ _ e];exact h6,h7.sub (Nat.le_refl _) hk hD hlc (fun v _ _ => .zy v) (fun b hb=>hg.block b (h7.z0n hb) (fun e'=>?_))⟩
     exact e (hr.hp.apart t tag z u b h6 hu hb (z0u e'.symm))
   ·change (zO _ _ _).lookup t=none at ht
    rw [qL] at ht
    by_cases e:t=tag
    ·subst e;rw [if_pos rfl] at ht;simp [ASt.subst,qz,hlk] at ht
    ·rw [if_neg e] at ht
     simp only [ASt.subst,qz,Option.map_eq_none_iff] at ht
     rw [zM _ _ e];exact hr.hp.dead t ht
   ·by_cases h5:t=tag
    ·by_cases h6:t' = tag
     ·rw [h5,h6]
     ·subst h5
      rw [zQ] at e1;cases e1
      rw [zM _ _ h6] at e2
      rcases hblk b e3 with e5|e5
      ·exact absurd (hr.hp.apart t t' u z' b hu e2 e5 e4).symm h6
      ·obtain ⟨o',_,ho'⟩:=hr.hp.z1k e2
       have:=ho'.z0n e4
       omega
    ·by_cases h6:t' = tag
     ·subst h6
      rw [zQ] at e2;cases e2
      rw [zM _ _ h5] at e1
      rcases hblk b e4 with e5|e5
      ·exact absurd (hr.hp.apart t t' z u b e1 hu e3 e5) h5
      ·obtain ⟨o',_,ho'⟩:=hr.hp.z1k e1
       have:=ho'.z0n e3
       omega
     ·rw [zM _ _ h5] at e1
      rw [zM _ _ h6] at e2
      exact hr.hp.apart t t' z z' b e1 e2 e3 e4
   ·by_cases h5:t=tag
    ·subst h5
     rw [zQ] at e1;cases e1
     rcases hblk b e2 with e5|e5
     ·exact hr.hp.notL t u b hu e5 hL
     ·have:=hr.hp.inL b hL;omega
    ·rw [zM _ _ h5] at e1
     exact hr.hp.notL t z b e1 e2 hL
   ·rw [zQ,hv'] at hz;cases hz;exact ⟨_,rfl,fun h=>hoo (by omega)⟩
  ·rcases z19 hb with e'|e'
   ·rcases hblk b e' with e5|e5
    ·exact .inl (.inr ⟨tag,u,hu,e5⟩)
    ·exact .inr (by omega)
   ·exact .inl e'
 ·have holds : ∀ (j:Nat) v,(flat.drop (m*n))[j]? = some v→w.cell? (Addr.add ⟨g,oo,none⟩ j)=some v:=fun j v hj=>by
   rw [List.getElem?_drop] at hj
   have hlt:=(List.getElem?_eq_some_iff.1 hj).1
   have hml:m<rows.length:=by
    by_cases e:m<rows.length
    ·exact e
    ·have:rows.length=m:=by omega
     rw [hfl0,this] at hlt;omega
   rw [hoo (by omega),Addr.add_lit,z05 hgc]
   rw [← htk,List.getElem?_take] at hj
   split at hj
   ·simpa using hj
   ·cases hj
  obtain ⟨v',w',hrun,hown',hg⟩:=run_append_arg_grows (P:=P) w ty o.type e i z n bytes hu' hi hz hsz hby hzs hn0 ⟨g,oo,none⟩ (rows.length-m) (cap-m) (flat.drop (m*n)) (by rw [List.length_drop,hfl0,Nat.sub_mul]) holds ay ys.length c news hlen (hcell ay rfl) (by omega) (by omega) (Nat.le_trans (Nat.mul_le_mul_right _ (by omega)) hbytes)
  have hb:Blw w.heap.size w w':=⟨⟨hg.os,hg.tape,hg.output,hg.size,fun k hk=>hg.block k hk (by simp)⟩⟩
  have hu2 : ∀ b,ql v' = some b→w.heap.size≤b:=fun b hb'=>by
   rcases hown'.2 with ⟨rfl,_⟩|⟨g',c',cur',rfl,hge,_⟩
   ·cases hb'
   ·cases hb';exact hge
  have hv1:v'.oneCell' = true:=by rcases hown'.2 with ⟨rfl,_⟩|⟨g,c,cur,rfl,_⟩ <;> rfl
  have hln:(rows.drop m++ys).length=rows.length-m+ys.length:=by simp
  have hown0:w'.ownsRow 0 e n v' ((rows.drop m++ys).length) (flat.drop (m*n)++news):=by
   rw [hln]
   refine ⟨hown'.1,?_⟩
   rcases hown'.2 with h|⟨g',c',cur',h1,_,h3⟩
   ·exact .inl h
   ·exact .inr ⟨g',c',cur',h1,Nat.zero_le _,h3⟩
  have hdl:(flat.drop (m*n)).length=(rows.drop m).length*n:=by rw [List.length_drop,List.length_drop,hfl0,Nat.sub_mul]
  have hall:=z1D (D:=Dm L loc) (w:=w) (ys:=ys) (news:=news) hdl (fun k r j x hk hx=>by
   rw [List.getElem?_drop] at hk
   obtain ⟨v,h5,h6⟩:=hfl (m+k) r j x hk hx
   refine ⟨v,?_,h6⟩
   rw [List.getElem?_drop,← h5]
   congr 1
   rw [Nat.add_mul];omega) hpr0
  have he:(execOp a.eval o).run P w = .ok (.value v') w':=by simp only [execOp,h,resolve,invoke,builtin,Sem.run_bind,Sem.run_pure,Result.andThen_ok,List.map_toArray,List.map_cons,List.map_nil,hax,hay,hrun]
  unfold Oper.wp
  rw [he]
  refine ⟨_,qj loc s.N v',hB,?_,.add hb _ _ hu2⟩
  refine (hr.add hb v' (.row e n (rows.drop m++ys)) hu2 ⟨flat.drop (m*n)++news,hown0,fun r hr'=>?_,fun k r j x hk hx=>?_,fun v hv'=>?_⟩).put' hd (.own s.N _ (Nat.lt_succ_self _) hv1 fun z hz=>by rw [zQ] at hz;cases hz;rfl)
  ·rcases List.mem_append.1 hr' with h5|h5
   ·exact hrn r (List.mem_of_mem_drop h5)
   ·exact hyn0 r h5
  ·obtain ⟨v,h5,h6⟩:=hall k r j x hk hx
   exact ⟨v,h5,h6.mono (.of_below hb) (fun k hk hd=>(z19 hd).resolve_left fun e=>by have:=hu2 k e;omega)⟩
  ·rcases List.mem_append.1 hv' with h5|h5
   ·exact hone v (List.mem_of_mem_drop h5)
   ·exact hone' v h5
end
end Go.Proofs.YtbkkginjfnjffaaGreatDoor
