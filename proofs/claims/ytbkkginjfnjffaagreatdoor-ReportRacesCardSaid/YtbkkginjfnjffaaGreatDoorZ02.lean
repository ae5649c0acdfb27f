/- Texts Ad, Ae, Af, Ag, Ah, Al. -/
import Derived.Laws.BytesArg
import Derived.ChangeKeysEq
import Derived.Maps.AppendAt
import Derived.Lib.AppendStr
import Derived.RangeFuncLeaves
import Derived.Test.YtbkkginjfnjffaaGreatDoorZ01
set_option maxHeartbeats 32000000
set_option maxRecDepth 100000
set_option linter.unusedSimpArgs false
set_option linter.unusedVariables false
namespace Go.Proofs.YtbkkginjfnjffaaGreatDoor
open Go.RowKit Go.Sort
section
variable {P:Program} {ops:Array Oper} {o:Oper} {s:ASt}
theorem AR.qC {N:Nat} {D:Nat→Prop} {loc:Nat→Option Value} {w:World} (v:Value) (h:v.oneCell' = true):AR N D loc w (.p (.val v)) v := .p _ _ (.val v h)
abbrev AV.int (n:Int):AV := .p (.val (.int .i64 n))
abbrev AV.bool (b:Bool):AV := .p (.val (.bool b))
def z2y (op:BinOp) (k:IntKind) (a b:Int):Option Value:=match op with
 | .add=>some (.int k (k.wrap (a+b)))
 | .sub=>some (.int k (k.wrap (a-b)))
 | .mul=>some (.int k (k.wrap (a*b)))
 | .quo=>if b=0 then none else some (.int k (k.wrap (a.tdiv b)))
 | .rem=>if b=0 then none else some (.int k (a.tmod b))
 | .eql=>some (.bool (a==b))
 | .neq=>some (.bool (a != b))
 | .lss=>some (.bool (decide (a<b)))
 | .leq=>some (.bool (decide (a≤b)))
 | .gtr=>some (.bool (decide (b<a)))
 | .geq=>some (.bool (decide (b≤a)))
 | .shr=>if b=1 then some (.int k (a.fdiv 2)) else none
 | _=>none
def scTy (P:Program) (t:TypeId):Option Nat:=match P.underlying t with
 | some (.int _)=>some 0
 | some .bool=>some 1
 | some .string=>some 2
 | _=>none
def scEq (c:Nat) (u v:Value):Option Bool:=match c,u,v with
 | 0,.int k a,.int k' b=>if k=k' then some (a==b) else none
 | 1,.bool a,.bool b=>some (a==b)
 | 2,.string a,.string b=>some (a.toList==b.toList)
 | _,_,_=>none
def eqTy (P : Program) (t : TypeId) : Option (List (Nat × Nat)) := match P.underlying t with
  | some (.struct fs) => if P.stoodInHeld t = false ∧ P.eqGuardType P.depth t = false then fs.toList.mapM fun f => if f.name = "_" then none else (scTy P f.type).map fun c => (f.offset, c) else none
  | some (.array n e) => if P.cellsOf e = 1 ∧ (P.info? e).isSome = true ∧ P.eqGuardType P.depth t = false then (scTy P e).map fun c => (List.range n).map fun i => (i, c) else none
  | _ => none
def aeqF (xs ys:List AV):List (Nat × Nat)→Option Bool
 | []=>some true
 | (off,c) :: r=>match xs[off]?,ys[off]? with
  | some (.p (.val u)),some (.p (.val v))=>match scEq c u v,aeqF xs ys r with
   | some b,some b'=>some (b&&b')
   | _,_=>none
  | _,_=>none
def zf (P:Program) (op:BinOp) (t:TypeId):AV→AV→Option AV
 | .p (.val (.int k a)),.p (.val (.int k' b))=>if k=k' then (z2y op k a b).map fun v => .p (.val v) else none
 | .p (.val (.bool a)),.p (.val (.bool b))=>match op,P.underlying t with
  | .eql,some .bool=>some (.bool (a==b))
  | .neq,some .bool=>some (.bool (!(a==b)))
  | _,_=>none
 | .p (.val (.string a)),.p (.val (.string b))=>match op with
  | .eql=>some (.bool (a.toList==b.toList))
  | .neq=>some (.bool (!(a.toList==b.toList)))
  | .add=>if a.size+b.size≤9223372036854775807 then some (.p (.val (.string (a++b)))) else none
  | _=>none
 | .agg xs,.agg ys=>match op,eqTy P t with
  | .eql,some l=>(aeqF xs ys l).map fun b => .bool b
  | .neq,some l=>(aeqF xs ys l).map fun b => .bool (!b)
  | _,_=>none
 | .p (.val (.map none)),.p (.val (.map none))=>match op,P.underlying t with
  | .eql,some (.map _ _)=>some (.bool true)
  | .neq,some (.map _ _)=>some (.bool false)
  | _,_=>none
 | _,_=>none
theorem run_abinI {op:BinOp} {k:IntKind} {a b:Int} {v:Value} (h:z2y op k a b=some v) (t:TypeId) (w:World):(binOp op t (.int k a) (.int k b)).run P w = .ok v w∧v.oneCell' = true:=by
 unfold z2y at h
 split at h
 all_goals first
  | (cases h;done)
  | (cases h;exact ⟨by simp [binOp,Op.intArith,Op.intCmp],rfl⟩)
  | (split at h <;> first|(cases h;done)|(cases h;rename_i hb;subst hb;exact ⟨by cases k <;> simp [binOp,Op.shift,IntKind.bits],rfl⟩))
  | (split at h <;> first|(cases h;done)|(cases h;rename_i hb;exact ⟨by simp [binOp,Op.intDiv,hb],rfl⟩))
theorem z4J (op:BinOp) (t:TypeId) (x y:Operand) (k k' : IntKind) (a b:Int) (w:World):(eqGuard op t x y (.int k a) (.int k' b)).run P w = .ok () w:=by
 cases op <;> simp [eqGuard]
theorem z1P (op:BinOp) (t:TypeId) (x y:Operand) (a b:Bool) (w:World):(eqGuard op t x y (.bool a) (.bool b)).run P w = .ok () w:=by
 cases op <;> simp [eqGuard]
theorem z11 (op:BinOp) (t:TypeId) (x y:Operand) (a b:ByteArray) (w:World):(eqGuard op t x y (.string a) (.string b)).run P w = .ok () w:=by
 cases op <;> simp [eqGuard]
theorem z1f {w:World} {t:TypeId} {c:Nat} (h:scTy P t=some c) (cs:Array Value) (off:Nat) (v:Value) (hv:cs[off]? = some v):(part t cs off).run P w = .ok v w:=by
 unfold scTy at h
 have : ∃ d,P.underlying t=some d∧((∃ k,d = .int k)∨d = .bool∨d = .string):=by
  split at h <;> first|exact ⟨_,‹_›,.inl ⟨_,rfl⟩⟩|exact ⟨_,‹_›,.inr (.inl rfl)⟩|exact ⟨_,‹_›,.inr (.inr rfl)⟩|cases h
 obtain ⟨d,hd,hk⟩:=this
 have hag:(isAgg t).run P w = .ok false w:=by
  unfold isAgg
  rw [Sem.run_bind,run_underlying hd w]
  rcases hk with ⟨k,rfl⟩|rfl|rfl <;> simp
 simp [part,Sem.run_bind,hag,hv]
theorem z4g {w:World} {t:TypeId} {c:Nat} (h:scTy P t=some c) {u v:Value} {b:Bool} (hb:scEq c u v=some b) (d:Nat):(Op.equalIn (d+1) t u v).run P w = .ok b w:=by
 unfold scTy at h
 split at h <;> cases h <;> rename_i hu <;> unfold scEq at hb <;> split at hb <;> simp_all
 ·obtain ⟨rfl,rfl⟩:=hb;exact run_equalIn_int w d t _ _ _ _ hu
 ·subst hb;exact run_equalIn_bool w d t _ _ hu
 ·subst hb;exact run_equalIn_string w d t _ _ hu
theorem run_eqF {N : Nat} {D : Nat → Prop} {loc : Nat → Option Value} {w : World} (d : Nat) {xs ys : List AV} {us vs : Array Value} (hx : ∀ j x, xs[j]? = some x → AR N D loc w x (us.getD j undef)) (hy : ∀ j x, ys[j]? = some x → AR N D loc w x (vs.getD j undef)) (hxl : us.size = xs.length) (hyl : vs.size = ys.length) :
    ∀ (fs : List Field) (l : List (Nat × Nat)) (b : Bool), (fs.mapM fun f => if f.name = "_" then none else (scTy P f.type).map fun c => (f.offset, c)) = some l → aeqF xs ys l = some b → (Op.eqFields (d + 1) us vs fs).run P w = .ok b w := by
  intro fs
  induction fs with
  | nil =>
    intro l b h hb
    simp only [List.mapM_nil, Option.pure_def, Option.some.injEq] at h
    subst h
    simp only [aeqF, Option.some.injEq] at hb
    subst hb
    simp [Op.eqFields]
  | cons f fs ih =>
    intro l b h hb
    simp only [List.mapM_cons, Option.bind_eq_bind, Option.bind_eq_some_iff, Option.pure_def, Option.some.injEq] at h
    obtain ⟨⟨off, c⟩, h1, l', h2, rfl⟩ := h
    split at h1
    · cases h1
    · rename_i hn
      obtain ⟨c', hc, h3⟩ := Option.map_eq_some_iff.1 h1
      cases h3
      simp only [aeqF] at hb
      split at hb
      · rename_i u v hu hv
        split at hb
        · rename_i b1 b2 hs1 hs2
          cases hb
          have e1 := hx _ _ hu
          have e2 := hy _ _ hv
          have hul := (List.getElem?_eq_some_iff.1 hu).1
          have hvl := (List.getElem?_eq_some_iff.1 hv).1
          have g1 : us[f.offset]? = some u := by rw [← e1.val, Array.getD_eq_getD_getElem?, Array.getElem?_eq_getElem (by omega)]; rfl
          have g2 : vs[f.offset]? = some v := by rw [← e2.val, Array.getD_eq_getD_getElem?, Array.getElem?_eq_getElem (by omega)]; rfl
          have hih := ih l' b2 h2 hs2
          cases b1 with
          | false => simp [Op.eqFields, hn, Sem.run_bind, z1f hc us _ u g1, z1f hc vs _ v g2, z4g hc hs1 d]
          | true => simp [Op.eqFields, hn, Sem.run_bind, z1f hc us _ u g1, z1f hc vs _ v g2, z4g hc hs1 d, hih]
        · cases hb
      · cases hb
theorem run_eqI {N:Nat} {D:Nat→Prop} {loc:Nat→Option Value} {w:World} (d:Nat) {e:TypeId} {c:Nat} (hc:scTy P e=some c) {xs ys:List AV} {us vs:Array Value} (hx : ∀ j x,xs[j]? = some x→AR N D loc w x (us.getD j undef)) (hy : ∀ j x,ys[j]? = some x→AR N D loc w x (vs.getD j undef)) (hxl:us.size=xs.length) (hyl:vs.size=ys.length) :
  ∀ (is:List Nat) (b:Bool),aeqF xs ys (is.map fun i=>(i,c))=some b→(Op.eqItems (d+1) e 1 us vs is).run P w = .ok b w:=by
 intro is
 induction is with
 | nil =>
  intro b hb
  simp only [List.map_nil,aeqF,Option.some.injEq] at hb
  subst hb
  simp [Op.eqItems]
 | cons i is ih =>
  intro b hb
  simp only [List.map_cons,aeqF] at hb
  split at hb
  ·rename_i u v hu hv
   split at hb
   ·rename_i b1 b2 hs1 hs2
    cases hb
    have e1:=hx _ _ hu
    have e2:=hy _ _ hv
    have hul:=(List.getElem?_eq_some_iff.1 hu).1
    have hvl:=(List.getElem?_eq_some_iff.1 hv).1
    have g1:us[i]? = some u:=by rw [← e1.val,Array.getD_eq_getD_getElem?,Array.getElem?_eq_getElem (by omega)];rfl
    have g2:vs[i]? = some v:=by rw [← e2.val,Array.getD_eq_getD_getElem?,Array.getElem?_eq_getElem (by omega)];rfl
    have hih:=ih b2 hs2
    cases b1 with
    | false=>simp [Op.eqItems,Sem.run_bind,z1f hc us _ u g1,z1f hc vs _ v g2,z4g hc hs1 d]
    | true=>simp [Op.eqItems,Sem.run_bind,z1f hc us _ u g1,z1f hc vs _ v g2,z4g hc hs1 d,hih]
   ·cases hb
  ·cases hb
theorem op_bin (op:BinOp) (t t' : TypeId) (x y:Operand) (av:AV) (h:o.op = .binOp op t x y t') (hl:zf P op t (s.ev x) (s.ev y)=some av):qB P ops o s av := .pure fun L loc a w hr=>by
 have h1:=hr.ev x (zJ (by simp [h,Op.operands]))
 have h2:=hr.ev y (zJ (by simp [h,Op.operands]))
 have he : ∀ v,(eqGuard op t x y (a.eval x) (a.eval y)).run P w = .ok () w→(binOp op t (a.eval x) (a.eval y)).run P w = .ok v w→(execOp a.eval o).run P w = .ok (.value v) w:=fun v hg hv=>by simp [execOp,h,hg,hv]
 generalize a.eval x=u at *
 generalize a.eval y=v at *
 generalize s.ev x=ax at *
 generalize s.ev y=ay at *
 unfold zf at hl
 split at hl
 ·split at hl
  ·rename_i hk
   subst hk
   obtain ⟨r,hr1,rfl⟩:=Option.map_eq_some_iff.1 hl
   obtain rfl:=h1.val
   obtain rfl:=h2.val
   have:=run_abinI (P:=P) hr1 t w
   exact ⟨r,he _ (z4J _ _ _ _ _ _ _ _ w) this.1,.qC _ this.2⟩
  ·cases hl
 ·obtain rfl:=h1.val
  obtain rfl:=h2.val
  split at hl
  ·rename_i hu
   cases hl
   exact ⟨_,he _ (z1P _ _ _ _ _ _ w) (by simp [binOp,run_equal_bool w _ _ _ hu]),.qC _ rfl⟩
  ·rename_i hu
   cases hl
   exact ⟨_,he _ (z1P _ _ _ _ _ _ w) (by simp [binOp,run_equal_bool w _ _ _ hu]),.qC _ rfl⟩
  ·cases hl
 ·obtain rfl:=h1.val
  obtain rfl:=h2.val
  split at hl
  ·cases hl;exact ⟨_,he _ (z11 _ _ _ _ _ _ w) (by simp [binOp,Op.stringOp]),.qC _ rfl⟩
  ·cases hl;exact ⟨_,he _ (z11 _ _ _ _ _ _ w) (by simp [binOp,Op.stringOp]),.qC _ rfl⟩
  ·split at hl
   ·rename_i hsz
    cases hl
    refine ⟨_,he _ (z11 _ _ _ _ _ _ w) ?_,.qC _ rfl⟩
    have : ∀ n:Nat,n≤9223372036854775807 → ¬ ((n:Nat):Int) > IntKind.i64.max:=fun n hn=>by
     have e:IntKind.i64.max=9223372036854775807:=by decide
     rw [e];omega
    simp only [binOp,Op.stringOp]
    rw [if_neg (this _ hsz)]
    rfl
   ·cases hl
  ·cases hl
 ·rename_i xs ys
  cases h1 with
  | agg _ us hul hua _ =>
  cases h2 with
  | agg _ vs hvl hva _ =>
  have key : ∀ l b,eqTy P t=some l→aeqF xs ys l=some b→(Op.equalIn 10000 t (.agg us) (.agg vs)).run P w = .ok b w∧P.eqGuardType P.depth t=false:=by
   intro l b hl hb
   unfold eqTy at hl
   split at hl
   ·rename_i fs hu
    split at hl
    ·rename_i hc
     refine ⟨?_,hc.2⟩
     have hfo:P.fieldsOf t=fs:=by simp [Program.fieldsOf,hu]
     rw [run_equalIn_struct w 9999 t us vs (by rw [hfo];exact hu) hc.1,hfo]
     exact run_eqF 9998 hua hva hul hvl fs.toList l b hl hb
    ·cases hl
   ·rename_i n e hu
    split at hl
    ·rename_i hc
     obtain ⟨hc1,hc2,hc3⟩:=hc
     obtain ⟨ti,hti⟩:=Option.isSome_iff_exists.1 hc2
     obtain ⟨c,hsc,rfl⟩:=Option.map_eq_some_iff.1 hl
     refine ⟨?_,hc3⟩
     rw [run_equalIn_array w 9999 us vs hu hti,hc1]
     exact run_eqI 9998 hsc hua hva hul hvl _ b hb
    ·cases hl
   ·cases hl
  split at hl
  ·rename_i l he2
   obtain ⟨b,hb,rfl⟩:=Option.map_eq_some_iff.1 hl
   obtain ⟨k1,k2⟩:=key l b he2 hb
   exact ⟨_,he _ (run_eqGuard_agg w _ _ _ _ _ _ k2) (by rw [run_eql_struct,k1];rfl),.qC _ rfl⟩
  ·rename_i l he2
   obtain ⟨b,hb,rfl⟩:=Option.map_eq_some_iff.1 hl
   obtain ⟨k1,k2⟩:=key l b he2 hb
   exact ⟨_,he _ (run_eqGuard_agg w _ _ _ _ _ _ k2) (by rw [run_neq_struct,k1];rfl),.qC _ rfl⟩
  ·cases hl
 ·obtain rfl:=h1.val
  obtain rfl:=h2.val
  have hg : ∀ op,(eqGuard op t x y (.map none) (.map none)).run P w = .ok () w:=fun op=>by cases op <;> simp [eqGuard]
  split at hl
  ·rename_i hu
   cases hl
   have h0 : ∀ d:Nat,(Op.equalIn (d+1) t (.map none) (.map none)).run P w = .ok true w:=fun d=>by simp [Op.equalIn,run_underlying hu]
   exact ⟨_,he _ (hg _) (by simp only [binOp];simp [Op.equal,Op.maxDepth,h0 9999]),.qC _ rfl⟩
  ·rename_i hu
   cases hl
   have h0 : ∀ d:Nat,(Op.equalIn (d+1) t (.map none) (.map none)).run P w = .ok true w:=fun d=>by simp [Op.equalIn,run_underlying hu]
   exact ⟨_,he _ (hg _) (by simp only [binOp];simp [Op.equal,Op.maxDepth,h0 9999]),.qC _ rfl⟩
  ·cases hl
 ·cases hl
def aun (op:UnOp):AV→Option AV
 | .p (.val (.bool b))=>if op = .not then some (.bool !b) else none
 | .p (.val (.int k n))=>if op = .neg then some (.p (.val (.int k (k.wrap (0-n))))) else none
 | _=>none
theorem op_un (op:UnOp) (t:TypeId) (x:Operand) (av:AV) (h:o.op = .unOp op t x) (hl:aun op (s.ev x)=some av):qB P ops o s av := .pure fun L loc a w hr=>by
 have h1:=hr.ev x (zJ (by simp [h,Op.operands]))
 have he : ∀ v,(Op.unary op (a.eval x)).run P w = .ok v w→(execOp a.eval o).run P w = .ok (.value v) w:=fun v hv=>by simp [execOp,h,hv]
 generalize s.ev x=ax at *
 unfold aun at hl
 split at hl
 ·split at hl
  ·rename_i hop;subst hop;cases hl;exact ⟨_,he _ (by rw [h1.val];simp [Op.unary]),.qC _ rfl⟩
  ·cases hl
 ·split at hl
  ·rename_i hop;subst hop;cases hl;exact ⟨_,he _ (by rw [h1.val];simp [Op.unary,Op.intArith]),.qC _ rfl⟩
  ·cases hl
 ·cases hl
theorem z8S (x:Operand) (i:Nat) (cs:List AV) (av:AV) (h:o.op = .extract x i) (hx:s.ev x = .tup cs) (hl:cs[i]? = some av):qB P ops o s av := .pure fun L loc a w hr=>by
 have h1:=hr.ev x (zJ (by simp [h,Op.operands]))
 rw [hx] at h1
 have he : ∀ v,(Instr.extract (a.eval x) i).run P w = .ok v w→(execOp a.eval o).run P w = .ok (.value v) w:=fun v hv=>by simp [execOp,h,hv]
 generalize a.eval x=u at *
 cases h1 with
 | tup _ vs hvl hva =>
  have hlt:=(List.getElem?_eq_some_iff.1 hl).1
  have:=hva i av hl
  rw [Array.getD_eq_getD_getElem?,Array.getElem?_eq_getElem (by omega)] at this
  exact ⟨_,he (vs[i]'(by omega)) (by simp [Instr.extract,Array.getElem?_eq_getElem (show i<vs.size by omega)]),this⟩
def alen (s:ASt):AV→Option Int
 | .p (.seq _ rows)=>some rows.length
 | .p (.val (.slice none 0 0))=>some 0
 | .own tag=>match s.hp.lookup tag with
  | some (.row _ _ rows)=>some rows.length
  | some (.arow _ cs)=>some cs.length
  | some (.afix _ _ len _)=>some len
  | _=>none
 | .suf tag n m=>match s.hp.lookup tag with
  | some (.row _ n' rows)=>if n' = n∧m≤rows.length ∧ 0<rows.length then some ((rows.length-m:Nat):Int) else none
  | _=>none
 | .cap0=>some 0
 | _=>none
theorem alen_val {s:ASt} {u:Value} {n:Int} (h:alen s (.p (.val u))=some n):u = .slice none 0 0∧n=0:=by
 cases u with
 | slice ad l c =>
  cases ad with
  | none=>cases l <;> cases c <;> simp [alen] at h;exact ⟨rfl,h.symm⟩
  | some a=>simp [alen] at h
 | _=>simp [alen] at h
def isSl (P:Program) (t:TypeId):Bool:=match P.underlying t with
 | some (.slice _)=>true
 | _=>false
theorem op_len (t:TypeId) (x:Operand) (n:Int) (h:o.op = .call { callee := .builtin .len,args := #[x],argTypes := #[t] }) (ht:isSl P t=true) (hl:alen s (s.ev x)=some n):qB P ops o s (.int n) := .pure fun L loc a w hr=>by
 have h1:=hr.ev x (zJ (by simp [h,Op.operands,Call.operands]))
 have hk : ∃ ad l c,a.eval x = .slice ad l c∧(l:Int)=n:=by
  generalize a.eval x=u at *
  generalize s.ev x=ax at *
  cases h1 with
  | p y v hp =>
   cases hp with
   | val _ _ =>
    obtain ⟨rfl,rfl⟩:=alen_val hl
    exact ⟨_,_,_,rfl,rfl⟩
   | nil n a cap h0=>simp only [alen,Option.some.injEq] at hl;exact ⟨_,_,_,rfl,by simpa using hl⟩
   | seq n b off cap rows=>simp only [alen,Option.some.injEq] at hl;exact ⟨_,_,_,rfl,hl⟩
  | own tag v ht h1 hv =>
   simp only [alen] at hl
   cases hlk:s.hp.lookup tag with
   | none=>rw [hlk] at hl;simp at hl
   | some ob =>
    rw [hlk] at hl
    obtain ⟨_,u',hu',hor⟩:=hr.hp.at' tag ob hlk
    cases ob with
    | map _ _ _ _ _=>simp at hl
    | raw _ _=>simp at hl
    | lrec _ _ _=>simp at hl
    | amap _ _ _ _ _=>simp at hl
    | arow e cs =>
     simp only [Option.some.injEq] at hl
     obtain ⟨flat,hown,_⟩:=hor
     obtain rfl:=hv _ hu'
     rcases hown.2 with ⟨rfl,h0⟩|⟨g,cap,cur,rfl,_⟩
     ·exact ⟨_,_,_,rfl,by omega⟩
     ·exact ⟨_,_,_,rfl,hl⟩
    | afix e m9 len cs =>
     simp only [Option.some.injEq] at hl
     obtain ⟨flat,hown,_⟩:=hor
     obtain rfl:=hv _ hu'
     rcases hown.2 with ⟨rfl,h0⟩|⟨g,cap,cur,rfl,_⟩
     ·exact ⟨_,_,_,rfl,by omega⟩
     ·exact ⟨_,_,_,rfl,hl⟩
    | boxP pin ty cs=>simp at hl
    | row e m rows =>
     simp only [Option.some.injEq] at hl
     obtain ⟨flat,hown,_⟩:=hor
     obtain rfl:=hv _ hu'
     rcases hown.2 with ⟨rfl,h0⟩|⟨g,cap,cur,rfl,_⟩
     ·exact ⟨_,_,_,rfl,by omega⟩
     ·exact ⟨_,_,_,rfl,hl⟩
  | suf tag n m v ht h1 hv =>
   simp only [alen] at hl
   cases hlk:s.hp.lookup tag with
   | none=>rw [hlk] at hl;simp at hl
   | some ob =>
    rw [hlk] at hl
    obtain ⟨_,u',hu',hor⟩:=hr.hp.at' tag ob hlk
    cases ob with
    | map _ _ _ _ _=>simp at hl
    | raw _ _=>simp at hl
    | lrec _ _ _=>simp at hl
    | amap _ _ _ _ _=>simp at hl
    | arow _ _=>simp at hl
    | afix _ _ _ _=>simp at hl
    | boxP pin ty cs=>simp at hl
    | row e n' rows =>
     simp only at hl
     split at hl
     ·rename_i hcond
      simp only [Option.some.injEq] at hl
      obtain ⟨flat,hown,_⟩:=hor
      rcases hown.2 with ⟨rfl,h0⟩|⟨g,cap,cur,rfl,_⟩
      ·omega
      ·obtain ⟨oo,rfl,_⟩:=hv _ _ _ hu'
       exact ⟨_,_,_,rfl,hl⟩
     ·cases hl
  | cap0 ad _=>simp only [alen,Option.some.injEq] at hl;exact ⟨_,_,_,rfl,by simpa using hl⟩
  | _=>cases hl
 obtain ⟨ad,l,c,hx,rfl⟩:=hk
 unfold isSl at ht
 split at ht
 ·rename_i e hu
  exact ⟨.int .i64 l,by simp [execOp,h,resolve,invoke,builtin,Builtin.len_,run_underlying hu,hx,goInt],.qC _ rfl⟩
 ·cases ht
theorem z7m (fn:Fn) (caps:Array Operand) (h:o.op = .makeFunc fn #[] caps):qB P ops o s (.fn fn (caps.toList.map s.ev)) := .pure fun L loc a w hr=>by
 refine ⟨.func fn #[] (caps.map a.eval),by simp [execOp,h,Instr.makeFunc],.fn fn _ _ (by simp) fun j x hx=>?_⟩
 simp only [List.getElem?_map,Option.map_eq_some_iff] at hx
 obtain ⟨c,hc,rfl⟩:=hx
 have hc' : caps[j]? = some c:=by simpa using hc
 have:(caps.map a.eval).getD j undef=a.eval c:=by
  rw [Array.getD_eq_getD_getElem?,Array.getElem?_map,hc'];rfl
 rw [this]
 exact hr.ev c (zJ (by simp [h,Op.operands];exact Array.mem_of_getElem? hc'))
theorem z2N (x:Operand) (h:o.op = .nilCheck x) (hx:(∃ r k,s.ev x = .elt r k)∨(∃ f c,s.ev x = .fn (.func f) c) ∨ ∃ t k pin ty cs,s.ev x = .ptr t k∧s.hp.lookup t=some (.boxP pin ty cs)):qB P ops o s (s.ev x) := .pure fun L loc a w hr=>by
 have h1:=hr.ev x (zJ (by simp [h,Op.operands]))
 refine ⟨a.eval x,?_,h1⟩
 rcases hx with ⟨r,k,e⟩|⟨f,c,e⟩|⟨t,k,pin,ty,cs,e,hlk⟩
 ·rw [e] at h1
  generalize hu:a.eval x=u at *
  cases h1
  simp [execOp,h,hu]
 ·rw [e] at h1
  generalize hu:a.eval x=u at *
  cases h1
  simp [execOp,h,hu]
 ·rw [e] at h1
  generalize hu:a.eval x=u at *
  cases h1 with
  | ptr _ _ _ _ _ hv =>
   obtain ⟨_,u',hu',b,arr,rfl,_⟩:=hr.hp.at' t _ hlk
   obtain rfl:=hv b hu'
   simp [execOp,h,hu]
def ptTy (P:Program) (t:TypeId):Option Bool:=match P.underlying t with
 | some (.pointer e)=>if e=P.pointee t then some true else none
 | _=>none
theorem ptTy_of {P:Program} {t:TypeId} (h:ptTy P t=some true):P.underlying t=some (.pointer (P.pointee t)):=by
 unfold ptTy at h
 split at h
 ·rename_i e he
  split at h
  ·rename_i e2;rw [← e2];exact he
  ·cases h
 ·cases h
theorem z2h (op:BinOp) (t:TypeId) (x y:Operand) (a b:Option Addr) (w:World):(eqGuard op t x y (.pointer a) (.pointer b)).run P w = .ok () w:=by
 cases op <;> rfl
theorem z6C (eq:Bool) (t t' : TypeId) (x y:Operand) (tag off:Nat) (pin:Option Nat) (ty:TypeId) (cs:List AV) (h:o.op = .binOp (if eq=true then .eql else .neq) t x y t') (hx:s.ev x = .ptr tag off) (hy:s.ev y = .p (.val (.pointer none))) (hlk:s.hp.lookup tag=some (.boxP pin ty cs)) (ht:ptTy P t=some true):qB P ops o s (.bool (!eq)) := .pure fun L loc a w hr=>by
 have h1:=hr.ev x (zJ (by simp [h,Op.operands]))
 have h2:=hr.ev y (zJ (by simp [h,Op.operands]))
 rw [hx] at h1
 rw [hy] at h2
 have h2':=h2.val
 generalize hu:a.eval x=u at *
 cases h1 with
 | ptr _ _ _ _ _ hv =>
  obtain ⟨_,u',hu',b,arr,rfl,_⟩:=hr.hp.at' tag _ hlk
  obtain rfl:=hv b hu'
  have hpt:=ptTy_of ht
  cases eq with
  | true=>exact ⟨_,by simp [execOp,h,hu,h2',z2h,run_eql_pointer_nil w t _ hpt],.qC _ rfl⟩
  | false=>exact ⟨_,by simp [execOp,h,hu,h2',z2h,run_neq_pointer_nil w t _ hpt],.qC _ rfl⟩
theorem z8R (src dst:TypeId) (x:Operand) (k k' : IntKind) (n:Int) (h:o.op = .convert src dst x) (hs:(P.underlying src).isSome=true) (hd:P.underlying dst=some (.int k)) (hx:s.ev x = .p (.val (.int k' n))):qB P ops o s (.p (.val (.int k (k.wrap n)))) := .pure fun L loc a w hr=>by
 have h1:=hr.ev x (zJ (by simp [h,Op.operands]))
 rw [hx] at h1
 obtain ⟨d,hd'⟩:=Option.isSome_iff_exists.1 hs
 exact ⟨_,by simp [execOp,h,convert,run_underlying hd',run_underlying hd,h1.val,Conv.intToInt],.qC _ rfl⟩
theorem op_lenStr (t:TypeId) (x:Operand) (b:ByteArray) (h:o.op = .call { callee := .builtin .len,args := #[x],argTypes := #[t] }) (ht:P.underlying t=some .string) (hx:s.ev x = .p (.val (.string b))):qB P ops o s (.int b.size) := .pure fun L loc a w hr=>by
 have h1:=hr.ev x (zJ (by simp [h,Op.operands,Call.operands]))
 rw [hx] at h1
 have hv:=h1.val
 exact ⟨.int .i64 b.size,by simp [execOp,h,resolve,invoke,builtin,hv,run_len_string w t o.type b ht,goInt],.qC _ rfl⟩
def chrB (c:Int):ByteArray:=⟨#[UInt8.ofNat c.toNat]⟩
def z5r (P:Program) (t:TypeId):Bool:=match P.underlying t with
 | some (.slice e)=>match P.underlying e with
  | some (.int .u8)=>true
  | _=>false
 | _=>false
theorem op_convS (src dst:TypeId) (x:Operand) (n:Nat) (c:Int) (h:o.op = .convert src dst x) (hs:z5r P src=true) (hd:P.underlying dst=some .string) (hx:s.ev x = .p (.seq n [[.val (.int .u8 c)]])):qB P ops o s (.p (.val (.string (chrB c)))) := .pure fun L loc a w hr=>by
 have h1:=hr.ev x (zJ (by simp [h,Op.operands]))
 rw [hx] at h1
 have hse : ∃ e,P.underlying src=some (.slice e)∧P.underlying e=some (.int .u8):=by
  unfold z5r at hs
  split at hs
  ·rename_i e he
   split at hs
   ·rename_i he2;exact ⟨e,he,he2⟩
   ·cases hs
  ·cases hs
 obtain ⟨e,hs1,hs2⟩:=hse
 generalize hu:a.eval x=u at h1
 cases h1 with
 | p _ _ hp =>
  cases hp with
  | seq _ b off cap _ f hb hnD hcap hmax hn hc hr' =>
   have hv:=(AR.p (N := 0) (loc:=fun _=>none) _ _ (hr' 0 _ 0 _ rfl rfl)).val
   have hcell:=hc 0 _ 0 _ rfl rfl
   rw [hv] at hcell
   have:=Go.run_convert_bytes_arg w src e hs1 hs2 b off 1 cap [c] rfl (fun i hi=>by
    obtain rfl:i=0:=by omega
    simpa using hcell) dst hd
   refine ⟨_,?_,.qC (.string (chrB c)) rfl⟩
   simp only [execOp,h,hu]
   simp only [List.length_cons,List.length_nil,Nat.zero_add]
   rw [show (.string (chrB c):Value) = .string (strOfNums [c]) from rfl]
   simp [this]
theorem op_max (x y:Operand) (tys:Array TypeId) (a' b' : Int) (h:o.op = .call { callee := .builtin .max,args := #[x,y],argTypes:=tys }) (hx:s.ev x = .int a') (hy:s.ev y = .int b'):qB P ops o s (.int (if a' < b' then b' else a')) := .pure fun L loc a w hr=>by
 have h1:=hr.ev x (zJ (by simp [h,Op.operands,Call.operands]))
 have h2:=hr.ev y (zJ (by simp [h,Op.operands,Call.operands]))
 rw [hx] at h1
 rw [hy] at h2
 refine ⟨.int .i64 (if a' < b' then b' else a'),?_,.qC _ rfl⟩
 simp [execOp,h,resolve,invoke,builtin,h1.val,h2.val,Builtin.max_,Builtin.max2]
end
def Ent (P:Program) (f:FuncId):Prop := ∀ (args:Array Value) (w:World),(callFunc f args).run P w = .ok (.enter f args) w
def ARs (N:Nat) (D:Nat→Prop) (loc:Nat→Option Value) (w:World) (xs:List AV) (vs:List Value):Prop:=vs.length=xs.length ∧ ∀ (j:Nat) x v,xs[j]? = some x→vs[j]? = some v→AR N D loc w x v
abbrev z2A:Nat→Option Value:=fun _=>none
def zt (P:Program) (f:FuncId) (xs:List AV) (r:AV):Prop := ∀ L w vs,(∀ b,L b→b<w.heap.size)→ARs 0 L z2A w xs vs →
 Calls P f vs.toArray w fun e w' => ∃ v,e = .returned v∧Blw w.heap.size w w' ∧ AR 0 L z2A w' r v
def z6R (P:Program) (f:FuncId) (xs:List AV) (x:PV):Prop := ∀ L w vs,(∀ b,L b→b<w.heap.size)→ARs 0 L z2A w xs vs →
 Calls P f vs.toArray w fun e w' => ∃ v,e = .returned v∧Blw w.heap.size w w' ∧ PR (fun b=>b<w.heap.size) w' x v
theorem AR.bare {N:Nat} {D L:Nat→Prop} {loc:Nat→Option Value} {w:World} {x:AV} {v:Value} (h:AR N D loc w x v) (hx:x.okB 0=true) (hD : ∀ b,L b→D b):AR 0 L z2A w x v :=
 (h.low hx).mono (Nat.le_refl _) (Kp.refl _ _) (fun k _ hk=>hD k hk) (fun _ _ h=>by omega)
theorem AR.dress {N:Nat} {D:Nat→Prop} {loc:Nat→Option Value} {w:World} {x:AV} {v:Value} (h:AR 0 D z2A w x v):AR N D loc w x v :=
 h.mono (Nat.zero_le _) (Kp.refl _ _) (fun _ _ h=>h) (fun _ _ h=>by omega)
section
variable {P:Program} {ops:Array Oper} {o:Oper} {s:ASt}
theorem op_call (f:FuncId) (args:Array Operand) (tys:Array TypeId) (r:AV) (h:o.op = .call { callee := .value (.func f),args:=args,argTypes:=tys }) (he:Ent P f) (hp:zt P f (args.toList.map s.ev) r)
  (hok:((args.toList.map s.ev).all (·.okB 0))=true):qB P ops o s r:=fun L loc a w hr=>by
 refine .inr ⟨f,args.map a.eval,?_,?_⟩
 ·have:=he (args.map a.eval) w
  simp [execOp,h,resolve,Act.eval,Deferred.ofValue,invoke,this]
 ·have:=hp (Dm L loc) w (args.toList.map a.eval) (fun b hb=>hr.hp.z7d hb) ⟨by simp,fun j x v hx hv=>by
   simp only [List.getElem?_map,Option.map_eq_some_iff] at hx hv
   obtain ⟨y,hy,rfl⟩:=hx
   obtain ⟨y',hy',rfl⟩:=hv
   rw [hy] at hy'
   cases hy'
   have hm:y ∈ o.op.operands.toList:=by
    simp only [h,Op.operands,Call.operands,Array.toList_append,List.mem_append]
    exact .inr (List.mem_of_getElem? hy)
   exact (hr.ev y (zJ hm)).bare (List.all_eq_true.1 hok _ (List.mem_map_of_mem (List.mem_of_getElem? hy))) (fun _ h=>h)⟩
  have e:(args.toList.map a.eval).toArray=args.map a.eval:=by apply Array.ext';simp
  rw [e] at this
  exact this.mono fun e w' ⟨v,h1,h2,h3⟩=>⟨v,h1,h2,h3.dress⟩
def AV.view (s:ASt):AV→AV
 | .own t=>match s.hp.lookup t with
  | some (.row _ n rows) => .p (.seq n rows)
  | _ => .own t
 | x=>x
def AV.scal:AV→Bool
 | .p (.val _)=>true
 | .tup cs=>cs.all fun c=>match c with
  | .p (.val _)=>true
  | _=>false
 | _=>false
theorem AR.scal {N:Nat} {D D' : Nat→Prop} {loc loc' : Nat→Option Value} {w:World} {x:AV} {v:Value} (h:AR 0 D loc w x v) (hx:x.scal=true):AR N D' loc' w x v:=by
 cases h with
 | p y v hp=>cases hp <;> first|(exact .qC _ (by assumption))|cases hx
 | tup cs vs hl ha =>
  refine .tup cs vs hl fun j x hx'=>?_
  have h1:=List.all_eq_true.1 hx x (List.mem_of_getElem? hx')
  have h2:=ha j x hx'
  cases x <;> try cases h1
  rename_i y
  cases y <;> try cases h1
  cases h2 with
  | p _ _ hp=>cases hp;exact .qC _ (by assumption)
 | _=>cases hx
theorem OR.seq {N:Nat} {D L:Nat→Prop} {loc:Nat→Option Value} {w:World} {u:Value} {e n:Nat} {rows:List (List PV)} (h:OR N D loc w u (.row e n rows)) (hL : ∀ b,L b→D b) (hb : ∀ b,ql u=some b → ¬ L b):PR L w (.seq n rows) u:=by
 obtain ⟨flat,hown,hn,hf,h1⟩:=h
 rcases hown.2 with ⟨rfl,h0⟩|⟨g,cap,cur,rfl,_,hg,hle,hmx,hcs,htk⟩
 ·have:rows = []:=List.eq_nil_of_length_eq_zero h0
  subst this
  exact .nil n none 0 (fun _=>rfl)
 ·have hlt:=(Array.getElem?_eq_some_iff.1 hg).1
  refine .seq n g 0 cap rows (fun k j=>flat.getD (k*n+j) undef) hlt (hb g rfl) hle hmx hn (fun k r j x hk hx=>?_) (fun k r j x hk hx=>?_)
  ·obtain ⟨v,h5,h6⟩:=hf k r j x hk hx
   rw [List.getD_eq_getElem?_getD,h5,Nat.zero_add]
   exact z2u hown h5
  ·obtain ⟨v,h5,h6⟩:=hf k r j x hk hx
   rw [List.getD_eq_getElem?_getD,h5]
   exact h6.mono (Kp.refl _ _) (fun b _ h=>hL b h)
theorem op_callV (f:FuncId) (args:Array Operand) (tys:Array TypeId) (r:AV) (h:o.op = .call { callee := .value (.func f),args:=args,argTypes:=tys }) (he:Ent P f) (hp:zt P f (args.toList.map fun x=>(s.ev x).view s) r)
  (hok:((args.toList.map fun x=>(s.ev x).view s).all (·.okB 0))=true) (hs:r.scal=true):qB P ops o s r:=fun L loc a w hr=>by
 refine .inr ⟨f,args.map a.eval,?_,?_⟩
 ·have:=he (args.map a.eval) w
  simp [execOp,h,resolve,Act.eval,Deferred.ofValue,invoke,this]
 ·have:=hp L w (args.toList.map a.eval) (fun b hb=>hr.hp.inL b hb) ⟨by simp,fun j x v hx hv=>by
   simp only [List.getElem?_map,Option.map_eq_some_iff] at hx hv
   obtain ⟨y,hy,rfl⟩:=hx
   obtain ⟨y',hy',rfl⟩:=hv
   rw [hy] at hy'
   cases hy'
   have hm:y ∈ o.op.operands.toList:=by
    simp only [h,Op.operands,Call.operands,Array.toList_append,List.mem_append]
    exact .inr (List.mem_of_getElem? hy)
   have hok':=List.all_eq_true.1 hok ((s.ev y).view s) (List.mem_map.2 ⟨y,List.mem_of_getElem? hy,rfl⟩)
   have h1:=hr.ev y (zJ hm)
   generalize s.ev y=ay at *
   by_cases hv : ∃ t,ay = .own t
   ·obtain ⟨t,rfl⟩:=hv
    simp only [AV.view] at hok' ⊢
    split
    ·rename_i e n rows hlk
     obtain ⟨_,u,hu,hor⟩:=hr.hp.at' t _ hlk
     generalize a.eval y=v at *
     cases h1 with
     | own _ _ _ _ hv2 =>
      obtain rfl:=hv2 u hu
      exact .p _ _ (hor.seq (fun b hb => .inl hb) (fun b hb=>hr.hp.notL t _ b hu hb))
    ·rename_i hno
     split at hok'
     ·rename_i e n rows hlk;exact absurd hlk (hno e n rows)
     ·simp [AV.okB] at hok'
   ·have e:ay.view s=ay:=by
     cases ay <;> first|rfl|exact absurd ⟨_,rfl⟩ hv
    rw [e] at hok' ⊢
    exact h1.bare hok' (fun b hb => .inl hb)⟩
  have e:(args.toList.map a.eval).toArray=args.map a.eval:=by apply Array.ext';simp
  rw [e] at this
  exact this.mono fun e w' ⟨v,h1,h2,h3⟩=>⟨v,h1,h2,h3.scal hs⟩
theorem op_callVF (f:FuncId) (args:Array Operand) (tys:Array TypeId) (r:PV) (h:o.op = .call { callee := .value (.func f),args:=args,argTypes:=tys }) (he:Ent P f) (hp:z6R P f (args.toList.map fun x=>(s.ev x).view s) r)
  (hok:((args.toList.map fun x=>(s.ev x).view s).all (·.okB 0))=true):qB P ops o s (.p r):=fun L loc a w hr=>by
 refine .inr ⟨f,args.map a.eval,?_,?_⟩
 ·have:=he (args.map a.eval) w
  simp [execOp,h,resolve,Act.eval,Deferred.ofValue,invoke,this]
 ·have:=hp L w (args.toList.map a.eval) (fun b hb=>hr.hp.inL b hb) ⟨by simp,fun j x v hx hv=>by
   simp only [List.getElem?_map,Option.map_eq_some_iff] at hx hv
   obtain ⟨y,hy,rfl⟩:=hx
   obtain ⟨y',hy',rfl⟩:=hv
   rw [hy] at hy'
   cases hy'
   have hm:y ∈ o.op.operands.toList:=by
    simp only [h,Op.operands,Call.operands,Array.toList_append,List.mem_append]
    exact .inr (List.mem_of_getElem? hy)
   have hok':=List.all_eq_true.1 hok ((s.ev y).view s) (List.mem_map.2 ⟨y,List.mem_of_getElem? hy,rfl⟩)
   have h1:=hr.ev y (zJ hm)
   generalize s.ev y=ay at *
   by_cases hv : ∃ t,ay = .own t
   ·obtain ⟨t,rfl⟩:=hv
    simp only [AV.view] at hok' ⊢
    split
    ·rename_i e n rows hlk
     obtain ⟨_,u,hu,hor⟩:=hr.hp.at' t _ hlk
     generalize a.eval y=v at *
     cases h1 with
     | own _ _ _ _ hv2 =>
      obtain rfl:=hv2 u hu
      exact .p _ _ (hor.seq (fun b hb => .inl hb) (fun b hb=>hr.hp.notL t _ b hu hb))
    ·rename_i hno
     split at hok'
     ·rename_i e n rows hlk;exact absurd hlk (hno e n rows)
     ·simp [AV.okB] at hok'
   ·have e:ay.view s=ay:=by
     cases ay <;> first|rfl|exact absurd ⟨_,rfl⟩ hv
    rw [e] at hok' ⊢
    exact h1.bare hok' (fun b hb => .inl hb)⟩
  have e:(args.toList.map a.eval).toArray=args.map a.eval:=by apply Array.ext';simp
  rw [e] at this
  exact this.mono fun e w' ⟨v,h1,h2,h3⟩=>⟨v,h1,h2,(.p _ _ (h3.mono (Kp.refl _ _) fun k _ hk=>hr.hp.z7d hk))⟩
theorem z8b (t:Tmp) (f:FuncId) (caps:List AV) (args:Array Operand) (tys:Array TypeId) (r:AV) (h:o.op = .call { callee := .value (.tmp t),args:=args,argTypes:=tys }) (hf:s.get t = .fn (.func f) caps) (he:Ent P f)
  (hp:zt P f (args.toList.map s.ev++caps) r) (hok:((args.toList.map s.ev++caps).all (·.okB 0))=true):qB P ops o s r:=fun L loc a w hr=>by
 have h0:=hr.ev (.tmp t) (zJ (by simp [h,Op.operands,Call.operands]))
 simp only [ASt.ev,hf] at h0
 generalize hu:a.eval (.tmp t)=u at h0
 cases h0 with
 | fn _ _ vs hvl hva =>
 refine .inr ⟨f,args.map a.eval++vs,?_,?_⟩
 ·have:=he (args.map a.eval++vs) w
  simp [execOp,h,resolve,hu,Deferred.ofValue,invoke,this]
 ·have:=hp (Dm L loc) w (args.toList.map a.eval++vs.toList) (fun b hb=>hr.hp.z7d hb) ⟨by simp [hvl],fun j x v hx hv=>by
   have hkb:x.okB 0=true:=List.all_eq_true.1 hok _ (List.mem_of_getElem? hx)
   rw [List.getElem?_append] at hx hv
   simp only [List.length_map] at hx hv
   split at hx
   ·rename_i hlt
    rw [if_pos hlt] at hv
    simp only [List.getElem?_map,Option.map_eq_some_iff] at hx hv
    obtain ⟨y,hy,rfl⟩:=hx
    obtain ⟨y',hy',rfl⟩:=hv
    rw [hy] at hy'
    cases hy'
    have hm:y ∈ o.op.operands.toList:=by
     simp only [h,Op.operands,Call.operands,Array.toList_append,List.mem_append]
     exact .inr (List.mem_of_getElem? hy)
    exact (hr.ev y (zJ hm)).bare hkb (fun _ h=>h)
   ·rename_i hlt
    rw [if_neg hlt] at hv
    have h5:=hva _ x hx
    have h6:vs[j-args.toList.length]? = some v:=by simpa using hv
    rw [Array.getD_eq_getD_getElem?,h6] at h5
    exact h5.bare hkb (fun _ h=>h)⟩
  have e:(args.toList.map a.eval++vs.toList).toArray=args.map a.eval++vs:=by simp
  rw [e] at this
  exact this.mono fun e w' ⟨v,h1,h2,h3⟩=>⟨v,h1,h2,h3.dress⟩
end
section
variable {P:Program} {ops:Array Oper} {Q:Exit→ASt→Prop} {rest:List Oper} {o:Oper} {s:ASt}
theorem Rel.sub {X X' : Nat→Prop} {L:Lim} {s:ASt} {loc:Nat→Option Value} {a:Act} {w:World} (h:Rel X L s loc a w) (hX : ∀ t,X' t→X t):Rel X' L s loc a w:=⟨h.defers,h.size,fun t ht=>h.fr t (hX t ht),h.hp⟩
def z3a (ops:Array Oper) (o:Oper) (s:ASt):Prop:=match o.guard with
 | none=>True
 | some (g,want)=>match (ops[g]?).bind (·.dst) with
  | some t=>s.get t = .bool want
  | none=>False
def z16 (ops:Array Oper) (o:Oper) (s:ASt):Prop:=match o.guard with
 | none=>False
 | some (g,want)=>match (ops[g]?).bind (·.dst) with
  | some t=>s.get t = .bool (!want)∨s.get t = .tup []
  | none=>False
theorem z0Q {X:Nat→Prop} {L:Lim} {loc:Nat→Option Value} {a:Act} {w:World} (hr:Rel X L s loc a w) {t:Nat} {b:Bool} (hX:X t) (h:s.get t = .bool b):a.tmps[t]? = some (.bool b):=by
 have h1:=hr.fr t hX
 rw [h] at h1
 have h2:=h1.val
 unfold slot at h2
 rw [Array.getD_eq_getD_getElem?] at h2
 cases h3:a.tmps[t]? with
 | none=>rw [h3] at h2;cases h2
 | some v=>rw [h3] at h2;simpa using h2
theorem z3a.spec {L:Lim} {loc:Nat→Option Value} {a:Act} {w:World} (h:z3a ops o s) (hr:Rel (looks ops o) L s loc a w):Region.wanted o (yielded ops a.tmps)=true:=by
 unfold z3a at h
 cases hg:o.guard with
 | none=>simp [Region.wanted,hg]
 | some gw =>
  obtain ⟨g,want⟩:=gw
  rw [hg] at h
  simp only at h
  cases hd:(ops[g]?).bind (·.dst) with
  | none=>rw [hd] at h;exact h.elim
  | some t =>
   rw [hd] at h
   have:=z0Q hr (t:=t) (List.mem_append.2 (.inr (by simp [hg,hd]))) h
   simp [Region.wanted,hg,yielded,hd,this]
theorem z16.spec {L:Lim} {loc:Nat→Option Value} {a:Act} {w:World} (h:z16 ops o s) (hr:Rel (looks ops o) L s loc a w):Region.wanted o (yielded ops a.tmps)=false:=by
 unfold z16 at h
 cases hg:o.guard with
 | none=>rw [hg] at h;exact h.elim
 | some gw =>
  obtain ⟨g,want⟩:=gw
  rw [hg] at h
  simp only at h
  cases hd:(ops[g]?).bind (·.dst) with
  | none=>rw [hd] at h;exact h.elim
  | some t =>
   rw [hd] at h
   rcases h with h|h
   ·have:=z0Q hr (t:=t) (List.mem_append.2 (.inr (by simp [hg,hd]))) h
    simp only [Region.wanted,hg,yielded,hd,this,Option.bind_some]
    cases want <;> rfl
   ·have h1:=hr.fr t (List.mem_append.2 (.inr (by simp [hg,hd])))
    rw [h] at h1
    generalize hv:slot a t=v at h1
    cases h1 with
    | tup _ vs hl _ =>
    have h2:vs = #[]:=Array.eq_empty_of_size_eq_zero hl
    subst h2
    simp only [Region.wanted,hg,yielded,hd,Option.bind_some]
    cases h3:a.tmps[t]? with
    | none=>cases want <;> rfl
    | some v =>
     unfold slot at hv
     rw [Array.getD_eq_getD_getElem?,h3] at hv
     simp only [Option.getD_some] at hv
     subst hv
     cases want <;> rfl
theorem TL.nil (h:Q .normal s):TL P ops Q [] s:=fun _ loc _ _ hr => .of h hr (Ext.refl _ _)
theorem TL.skip (h:z16 ops o s) (k:TL P ops Q rest (s.put o.dst (.tup []))) (hd : ∀ t,o.dst=some t→t<s.n):TL P ops Q (o :: rest) s:=fun L loc a w hr=>by
 unfold wpList
 rw [h.spec (hr.sub fun _ _=>trivial),if_neg (by simp)]
 exact k L loc _ w (hr.put' hd (show AR _ _ _ _ (.tup []) undef from .tup [] #[] rfl (fun j x hx=>by simp at hx)))
def z0L (P:Program) (o:Oper) (s:ASt) (s' : ASt):Prop := ∀ L loc a w,Rel All L s loc a w→o.wp P a w (fun a' w' => ∃ loc',Rel All L s' loc' a' w' ∧ Ext loc w loc' w') (fun _ _ _=>False)
theorem TL.eff (hw:z3a ops o s) {s' : ASt} (h:z0L P o s s') (k:TL P ops Q rest s'):TL P ops Q (o :: rest) s:=fun L loc a w hr=>by
 unfold wpList
 rw [hw.spec (hr.sub fun _ _=>trivial),if_pos rfl]
 refine .inl (z2f (fun a' w' ⟨loc',h1,h2⟩=>?_) (fun _ _ _ h=>h.elim) (h L loc a w hr))
 exact z0k (fun _ _ _ k=>k.ext h2) rest a' w' (k L loc' a' w' h1)
theorem qB.eff {av:AV} (h:qB P ops o s av) (hd : ∀ t,o.dst=some t→t<s.n):z0L P o s (s.put o.dst av):=fun L loc a w hr=>by
 unfold Oper.wp
 rcases h L loc a w (hr.sub fun _ _=>trivial) with ⟨v,w',h1,h2,h3⟩|⟨f,args,h1,h2⟩
 ·rw [h1]
  exact ⟨loc,(hr.below h2).put' hd h3,.of_below h2⟩
 ·rw [h1]
  refine h2.mono fun e w' ⟨v,he,hb,ha⟩=>?_
  subst he
  exact ⟨loc,(hr.below hb).put' hd ha,.of_below hb⟩
theorem TL.val (hw:z3a ops o s) (av:AV) (h:qB P ops o s av) (hd : ∀ t,o.dst=some t→t<s.n) (k:TL P ops Q rest (s.put o.dst av)):TL P ops Q (o :: rest) s:=TL.eff hw (h.eff hd) k
def NQ (Q:Exit→ASt→Prop) (e:Exit) (s:ASt):Prop:=e = .normal∧Q .normal s
theorem NQ.out {L:Lim} {loc:Nat→Option Value} {w:World} {Q:Exit→ASt→Prop} (a:Act) (w' : World) : ¬ z0r L loc w (NQ Q) .outgrown a w':=fun ⟨_,_,h,_⟩=>by cases h.1
theorem NQ.post {L:Lim} {loc:Nat→Option Value} {w:World} {Q:Exit→ASt→Prop} {e:Exit} {a:Act} {w' : World} (h:z0r L loc w (NQ Q) e a w'):z0r L loc w Q e a w':=by
 obtain ⟨s',loc',⟨rfl,h1⟩,h2,h3⟩:=h
 exact ⟨s',loc',h1,h2,h3⟩
theorem NQ.normal (Q:Exit→ASt→Prop) (s:ASt):NQ Q .normal s=Q .normal s:=by simp [NQ]
def z1r (l:List Oper):Bool:=l.all z3N
theorem z0i {l:List Oper} (h:z1r l=true) : ∀ o ∈ l,z3N o=true:=List.all_eq_true.1 h
theorem T.region {F:Fence} [FOk F] {id:Nat} {l:List Oper} (hd:z1r l=true) (h:TL P l.toArray (NQ Q) l s):T F P (.region id l.toArray false) Q s:=fun L loc a w hr =>
 wpIn_mono (wpIn_region_lit (z5D NQ.out l a w (z0i hd) (h L loc a w hr))) fun _ _ _ k=>NQ.post k
end
def qj (loc:Nat→Option Value) (t:Nat) (u:Value):Nat→Option Value:=fun x=>if x=t then some u else loc x
theorem zQ (loc:Nat→Option Value) (t:Nat) (u:Value):qj loc t u t=some u:=by simp [qj]
theorem zM (loc:Nat→Option Value) {t x:Nat} (u:Value) (h:x ≠ t):qj loc t u x=loc x:=by simp [qj,h]
def ASt.add (s:ASt) (o:AO):ASt := { s with hp:=(s.N,o) :: s.hp,N:=s.N+1 }
theorem zo {α:Type} {k t:Nat} {v : α} {l:List (Nat × α)} (h:k ≠ t):((t,v) :: l).lookup k=l.lookup k:=by
 have:(k==t)=false:=by simpa using h
 rw [List.lookup_cons,this]
theorem zB {α:Type} {t:Nat} {v : α} {l:List (Nat × α)} : ((t,v) :: l).lookup t=some v:=by simp
theorem HRel.z5H {L:Nat→Prop} {N:Nat} {hp:Hp} {loc:Nat→Option Value} {w:World} (h:HRel L N hp loc w) {t:Nat} (ht:N≤t):hp.lookup t=none:=by
 cases ho:hp.lookup t with
 | none=>rfl
 | some o=>have:=(h.at' t o ho).1;omega
theorem z19 {L:Nat→Prop} {loc:Nat→Option Value} {t:Nat} {u:Value} {b:Nat} (h:Dm L (qj loc t u) b):ql u=some b∨Dm L loc b:=by
 rcases h with h|⟨t',u',h1,h2⟩
 ·exact .inr (.inl h)
 ·by_cases e:t' = t
  ·subst e;rw [zQ] at h1;cases h1;exact .inl h2
  ·rw [zM _ _ e] at h1;exact .inr (.inr ⟨t',u',h1,h2⟩)
theorem HRel.add {L:Nat→Prop} {N:Nat} {hp:Hp} {loc:Nat→Option Value} {w w' : World} (h:HRel L N hp loc w) (hb:Blw w.heap.size w w') (u:Value) (o:AO) (hu : ∀ b,ql u=some b→w.heap.size≤b)
  (ho:OR (N+1) (Dm L (qj loc N u)) (qj loc N u) w' u o):HRel L (N+1) ((N,o) :: hp) (qj loc N u) w':=by
 have hN:loc N=none:=h.dead N (h.z5H (Nat.le_refl _))
 have hDm : ∀ k,k<w.heap.size→Dm L (qj loc N u) k→Dm L loc k:=fun k hk hd=>(z19 hd).resolve_left fun e=>by have:=hu k e;omega
 have hlc : ∀ t v,t<N→qj loc N u t=some v→loc t=some v:=fun t v ht hv=>by rwa [zM _ _ (by omega)] at hv
 refine ⟨fun t o' ht=>?_,fun t ht=>?_,fun t t' v v' b h1 h2 e1 e2=>?_,fun b hL=>Nat.lt_of_lt_of_le (h.inL b hL) hb.size,fun t v b h1 e hL=>?_⟩
 ·by_cases e:t=N
  ·subst e
   rw [zB] at ht
   cases ht
   exact ⟨Nat.lt_succ_self _,u,zQ _ _ _,ho⟩
  ·rw [zo e] at ht
   obtain ⟨h1,v,h2,h3⟩:=h.at' t o' ht
   exact ⟨Nat.lt_succ_of_lt h1,v,by rw [zM _ _ e];exact h2,h3.mono (Nat.le_succ _) (.of_below hb) hDm hlc (fun b hb'=>hb.block b (h3.z0n hb'))⟩
 ·by_cases e:t=N
  ·subst e;rw [zB] at ht;cases ht
  ·rw [zo e] at ht;rw [zM _ _ e];exact h.dead t ht
 ·by_cases ht:t=N
  ·by_cases ht' : t' = N
   ·rw [ht,ht']
   ·subst ht
    rw [zQ] at h1;cases h1
    rw [zM _ _ ht'] at h2
    obtain ⟨o',_,ho'⟩:=h.z1k h2
    have:=ho'.z0n e2
    have:=hu b e1
    omega
  ·by_cases ht' : t' = N
   ·subst ht'
    rw [zQ] at h2;cases h2
    rw [zM _ _ ht] at h1
    obtain ⟨o',_,ho'⟩:=h.z1k h1
    have:=ho'.z0n e1
    have:=hu b e2
    omega
   ·rw [zM _ _ ht] at h1
    rw [zM _ _ ht'] at h2
    exact h.apart t t' v v' b h1 h2 e1 e2
 ·by_cases ht:t=N
  ·subst ht
   rw [zQ] at h1;cases h1
   have:=hu b e
   have:=h.inL b hL
   omega
  ·rw [zM _ _ ht] at h1;exact h.notL t v b h1 e hL
theorem Rel.add {X:Nat→Prop} {L:Lim} {s:ASt} {loc:Nat→Option Value} {a:Act} {w w' : World} (h:Rel X L s loc a w) (hb:Blw w.heap.size w w') (u:Value) (o:AO) (hu : ∀ b,ql u=some b→w.heap.size≤b)
  (ho:OR (s.N+1) (Dm L (qj loc s.N u)) (qj loc s.N u) w' u o):Rel X L (s.add o) (qj loc s.N u) a w' :=
 ⟨h.defers,h.size,fun t ht=>(h.fr t ht).mono (Nat.le_succ _) (.of_below hb) (fun k hk hd=>(z19 hd).resolve_left fun e=>by have:=hu k e;omega) (fun t v ht hv=>by rwa [zM _ _ (by omega)] at hv),h.hp.add hb u o hu ho⟩
theorem Ext.add {loc:Nat→Option Value} {w w' : World} (hb:Blw w.heap.size w w') (t:Nat) (u:Value) (hu : ∀ b,ql u=some b→w.heap.size≤b):Ext loc w (qj loc t u) w' :=
 ⟨.of_below hb,fun b hd=>(z19 hd).elim (fun e => .inr (hu b e)) .inl⟩
def z0e:AV→Option (List AV)
 | .agg cs=>some cs
 | .p x=>some [.p x]
 | .ptr t k=>some [.ptr t k]
 | .rptr t n k j=>some [.rptr t n k j]
 | .own t=>some [.own t]
 | .pre t m=>some [.pre t m]
 | .fn f cs=>some [.fn f cs]
 | .elt r k=>some [.elt r k]
 | .cap0=>some [.cap0]
 | _=>none
theorem z1S {N:Nat} {D:Nat→Prop} {loc:Nat→Option Value} {w:World} {x:AV} {cs:List AV} {v:Value} (h:AR N D loc w x v) (hc:z0e x=some cs) :
  v.cells.size=cs.length∧(∀ j y,cs[j]? = some y→AR N D loc w y (v.cells.getD j undef)) ∧ ∀ j,j<v.cells.size→(v.cells.getD j undef).oneCell' = true:=by
 have one : ∀ {y:AV},AR N D loc w y v→v.oneCell' = true→v.cells.size = [y].length∧(∀ j z,[y][j]? = some z→AR N D loc w z (v.cells.getD j undef)) ∧ ∀ j,j<v.cells.size→(v.cells.getD j undef).oneCell' = true:=fun {y} hy h1=>by
  have hv:v.cells = #[v]:=by cases v <;> first|rfl|cases h1
  rw [hv]
  refine ⟨rfl,fun j z hz=>?_,fun j hj=>?_⟩
  ·cases j with
   | zero=>cases hz;exact hy
   | succ j=>cases hz
  ·have:j=0:=by simp at hj;omega
   subst this;exact h1
 cases h with
 | p y v hp=>cases hc;exact one (.p y v hp) hp.one
 | elt row off b o f hb hnD hcl hr=>cases hc;exact one (.elt row off b o f hb hnD hcl hr) rfl
 | ptr t off v ht h1 h=>cases hc;exact one (.ptr t off v ht h1 h) h1
 | rptr t n k off v ht h1 h=>cases hc;exact one (.rptr t n k off v ht h1 h) h1
 | own t v ht h1 h=>cases hc;exact one (.own t v ht h1 h) h1
 | pre t m v ht h1 h=>cases hc;exact one (.pre t m v ht h1 h) h1
 | fn f caps vs hl h=>cases hc;exact one (.fn f caps vs hl h) rfl
 | agg cs' vs hl h h1=>cases hc;exact ⟨hl,h,h1⟩
 | cap0 a h=>cases hc;exact one (.cap0 a h) rfl
 | _=>cases hc
section
variable {P:Program} {ops:Array Oper} {o:Oper} {s:ASt}
theorem op_box (ty:TypeId) (x:Operand) (cs:List AV) (h:o.op = .box ty x) (hx:z0e (s.ev x)=some cs) (hd : ∀ t,o.dst=some t→t<s.n):z0L P o s ((s.add (.box ty cs)).put o.dst (.ptr s.N 0)):=fun L loc a w hr=>by
 have hb:Blw w.heap.size w (w.alloc (.cells (a.eval x).cells ty)):=(Blw.refl _ _).alloc (Nat.le_refl _) _
 have hax:=(hr.below hb).ev x (fun _ _=>trivial)
 have hu : ∀ b,ql (.pointer (some ⟨w.heap.size,0,none⟩))=some b→w.heap.size≤b:=fun b e=>by cases e;exact Nat.le_refl _
 have hax' : AR (s.N+1) (Dm L (qj loc s.N (.pointer (some ⟨w.heap.size,0,none⟩)))) (qj loc s.N (.pointer (some ⟨w.heap.size,0,none⟩))) (w.alloc (.cells (a.eval x).cells ty)) (s.ev x) (a.eval x) :=
  (hr.ev x (fun _ _=>trivial)).mono (Nat.le_succ _) (.of_below hb) (fun k hk hd=>(z19 hd).resolve_left fun e=>by have:=hu k e;omega) (fun t v ht hv=>by rwa [zM _ _ (by omega)] at hv)
 obtain ⟨h1,h2,h3⟩:=z1S hax' hx
 have hrun:(execOp a.eval o).run P w = .ok (.value (.pointer (some ⟨w.heap.size,0,none⟩))) (w.alloc (.cells (a.eval x).cells ty)):=by
  simp [execOp,h,Instr.box,newVar,newRow]
 unfold Oper.wp
 rw [hrun]
 refine ⟨qj loc s.N (.pointer (some ⟨w.heap.size,0,none⟩)),?_,.add hb _ _ hu⟩
 refine (hr.add hb _ (.box ty cs) hu ⟨w.heap.size,_,rfl,qR w _ _ rfl,h1,h2,h3,fun p e=>(by cases e)⟩).put' hd (.ptr s.N 0 _ (Nat.lt_succ_self _) rfl fun b hb'=>?_)
 rw [zQ] at hb';cases hb';rfl
def zN (P:Program) (t:TypeId):Option (List Value):=match (P.info? t).bind (·.zero) with
 | some z=>if z.cells.all (·.oneCell') then some z.cells.toList else none
 | none=>none
theorem z8a (ty:TypeId) (zs:List Value) (h:o.op = .alloc ty) (hz:zN P ty=some zs) (hd : ∀ t,o.dst=some t→t<s.n):z0L P o s ((s.add (.box ty (zs.map fun v => .p (.val v)))).put o.dst (.ptr s.N 0)):=fun L loc a w hr=>by
 unfold zN at hz
 split at hz
 ·rename_i z hzz
  split at hz
  ·rename_i hone
   cases hz
   obtain ⟨i,hi,hiz⟩:=Option.bind_eq_some_iff.1 hzz
   have hone':=Array.all_eq_true_iff_forall_mem.1 hone
   have hb:Blw w.heap.size w (w.alloc (.cells z.cells ty)):=(Blw.refl _ _).alloc (Nat.le_refl _) _
   have hu : ∀ b,ql (.pointer (some ⟨w.heap.size,0,none⟩))=some b→w.heap.size≤b:=fun b e=>by cases e;exact Nat.le_refl _
   have hrun:(execOp a.eval o).run P w = .ok (.value (.pointer (some ⟨w.heap.size,0,none⟩))) (w.alloc (.cells z.cells ty)):=by
    simp [execOp,h,Instr.alloc,zeroValue,typeInfo,hi,hiz,newVar,newRow]
   unfold Oper.wp
   rw [hrun]
   refine ⟨qj loc s.N (.pointer (some ⟨w.heap.size,0,none⟩)),?_,.add hb _ _ hu⟩
   refine (hr.add hb _ (.box ty (z.cells.toList.map fun v => .p (.val v))) hu ⟨w.heap.size,_,rfl,qR w _ _ rfl,by simp,fun j x hx=>?_,fun j hj=>?_,fun p e=>(by cases e)⟩).put' hd (.ptr s.N 0 _ (Nat.lt_succ_self _) rfl fun b hb'=>?_)
   ·simp only [List.getElem?_map,Option.map_eq_some_iff] at hx
    obtain ⟨v,hv,rfl⟩:=hx
    have hv' : z.cells[j]? = some v:=by simpa using hv
    rw [Array.getD_eq_getD_getElem?,hv']
    exact .qC v (hone' v (Array.mem_of_getElem? hv'))
   ·rw [Array.getD_eq_getD_getElem?,Array.getElem?_eq_getElem hj]
    exact hone' _ (Array.getElem_mem hj)
   ·rw [zQ] at hb';cases hb';rfl
  ·cases hz
 ·cases hz
def qM {α:Type} (cs:List α) (off:Nat) (xs:List α):List α:=cs.take off++xs++cs.drop (off+xs.length)
theorem qK {α:Type} {cs:List α} {off:Nat} {xs:List α} (h:off+xs.length≤cs.length) (j:Nat):(qM cs off xs)[j]? = if off≤j∧j<off+xs.length then xs[j-off]? else cs[j]?:=by
 unfold qM
 rw [List.append_assoc,List.getElem?_append,List.getElem?_append]
 simp only [List.length_take,Nat.min_eq_left (show off≤cs.length by omega)]
 by_cases h1:j<off
 ·rw [if_pos h1,if_neg (by omega),List.getElem?_take,if_pos h1]
 ·rw [if_neg h1]
  by_cases h2:j-off<xs.length
  ·rw [if_pos h2,if_pos (by omega)]
  ·rw [if_neg h2,if_neg (by omega),List.getElem?_drop]
   congr 1;omega
theorem qY {α:Type} {cs:List α} {off:Nat} {xs:List α} (h:off+xs.length≤cs.length):(qM cs off xs).length=cs.length:=by
 simp [qM];omega
theorem z0D {b:Nat} : ∀ (vs:List Value) (off:Nat) (w:World) (arr:Array Value) (ty:TypeId) (fr:Nat × Nat),w.heap[b]? = some (.cells arr ty fr)→off+vs.length≤arr.size →
  ∃ arr' : Array Value,(w.setCells b off vs).heap[b]? = some (.cells arr' ty fr)∧arr'.toList=qM arr.toList off vs∧arr'.size=arr.size
 | [],off,w,arr,ty,fr,h,_=>⟨arr,h,by simp [qM],rfl⟩
 | v :: r,off,w,arr,ty,fr,h,hl=>by
  simp only [List.length_cons] at hl
  have h1:(w.setCell ⟨b,off,none⟩ v).heap[b]? = some (.cells (arr.setIfInBounds off v) ty fr):=by
   simp [World.setCell,Array.getElem?_modify,h]
  obtain ⟨arr',h2,h3,h4⟩:=z0D r (off+1) _ _ ty fr h1 (by simp;omega)
  refine ⟨arr',h2,?_,by simpa using h4⟩
  rw [h3]
  apply List.ext_getElem?
  intro j
  rw [qK (by simp;omega),qK (by simp;omega)]
  simp only [List.length_cons,Array.getElem?_toList,Array.getElem?_setIfInBounds]
  by_cases e1:off+1≤j∧j<off+1+r.length
  ·rw [if_pos e1,if_pos (by omega)]
   rw [show j-off=(j-(off+1))+1 by omega];rfl
  ·rw [if_neg e1]
   by_cases e2:off=j
   ·subst e2
    rw [if_pos rfl,if_pos (by omega),if_pos (by omega)]
    simp
   ·rw [if_neg e2,if_neg (by omega)]
theorem z2G {b k:Nat} (h:k ≠ b) : ∀ (vs:List Value) (off:Nat) (w:World),(w.setCells b off vs).heap[k]? = w.heap[k]?
 | [],_,_=>rfl
 | v :: r,off,w=>by rw [World.setCells,z2G h r];exact Below.heap_setCell _ _ _ _ h
theorem setCells_size {b:Nat} : ∀ (vs:List Value) (off:Nat) (w:World),(w.setCells b off vs).heap.size=w.heap.size
 | [],_,_=>rfl
 | v :: r,off,w=>by rw [World.setCells,setCells_size r];simp [World.setCell]
theorem z09 {b:Nat} {D:Nat→Prop} (hD:D b) (vs:List Value) (off:Nat) (w:World):Kp D w (w.setCells b off vs):=by
 have h : ∀ (vs:List Value) (off:Nat) (w:World),(w.setCells b off vs).os=w.os∧(w.setCells b off vs).tape=w.tape∧(w.setCells b off vs).output=w.output:=by
  intro vs
  induction vs with
  | nil=>intro _ _;exact ⟨rfl,rfl,rfl⟩
  | cons v r ih=>intro off w;exact ih (off+1) _
 obtain ⟨h1,h2,h3⟩:=h vs off w
 exact ⟨h1,h2,h3,by rw [setCells_size];exact Nat.le_refl _,fun k _ hn=>z2G (fun e=>hn (by rw [e];exact hD)) vs off w⟩
def zO (hp:Hp) (t:Nat) (o:AO):Hp:=hp.map fun p=>if p.1=t then (t,o) else p
theorem qL (hp:Hp) (t k:Nat) (o:AO):(zO hp t o).lookup k=if k=t then (hp.lookup t).map (fun _=>o) else hp.lookup k:=by
 induction hp with
 | nil=>simp [zO]
 | cons p r ih =>
  obtain ⟨j,oj⟩:=p
  simp only [zO,List.map_cons] at ih ⊢
  by_cases e:j=t
  ·subst e
   by_cases ek:k=j
   ·subst ek;simp
   ·simp only [if_true]
    rw [zo ek,ih,if_neg ek,if_neg ek,zo ek]
  ·simp only [if_neg e]
   by_cases ek:k=j
   ·subst ek;rw [zB,if_neg e,zB]
   ·rw [zo ek,ih]
    by_cases ekt:k=t
    ·subst ekt;rw [if_pos rfl,if_pos rfl,zo ek]
    ·rw [if_neg ekt,if_neg ekt,zo ek]
theorem HRel.turn {L:Nat→Prop} {N:Nat} {hp:Hp} {loc:Nat→Option Value} {w w' : World} (h:HRel L N hp loc w) {t:Nat} {u:Value} {o o' : AO} {b:Nat} (ht:hp.lookup t=some o) (hu:loc t=some u) (hb:ql u=some b)
  (hk:Kp (fun k=>k=b) w w') (ho:OR N (Dm L loc) loc w' u o'):HRel L N (zO hp t o') loc w':=by
 have hDb:Dm L loc b := .inr ⟨t,u,hu,hb⟩
 refine ⟨fun k ok hk'=>?_,fun k hk'=>?_,h.apart,fun b hL=>Nat.lt_of_lt_of_le (h.inL b hL) hk.size,h.notL⟩
 ·rw [qL] at hk'
  by_cases e:k=t
  ·subst e
   rw [if_pos rfl,ht] at hk'
   cases hk'
   exact ⟨(h.at' k o ht).1,u,hu,ho⟩
  ·rw [if_neg e] at hk'
   obtain ⟨h1,v,h2,h3⟩:=h.at' k ok hk'
   refine ⟨h1,v,h2,h3.mono (Nat.le_refl _) (D':=Dm L loc) ⟨hk.os,hk.tape,hk.output,hk.size,fun x hx hn=>hk.block x hx (fun e=>hn (e ▸ hDb))⟩ (fun _ _ h=>h) (fun _ _ _ h=>h) (fun b' hb'=>hk.block b' (h3.z0n hb') (fun e'=>?_))⟩
   subst e'
   exact e (h.apart k t v u b' h2 hu hb' hb)
 ·rw [qL] at hk'
  by_cases e:k=t
  ·subst e;rw [if_pos rfl,ht] at hk';cases hk'
  ·rw [if_neg e] at hk';exact h.dead k hk'
theorem Rel.turn {L:Lim} {s:ASt} {loc:Nat→Option Value} {a:Act} {w w' : World} (h:Rel All L s loc a w) {t:Nat} {u:Value} {o o' : AO} {b:Nat} (ht:s.hp.lookup t=some o) (hu:loc t=some u) (hb:ql u=some b)
  (hk:Kp (fun k=>k=b) w w') (ho:OR s.N (Dm L loc) loc w' u o'):Rel All L { s with hp:=zO s.hp t o' } loc a w' :=
 have hDb:Dm L loc b := .inr ⟨t,u,hu,hb⟩
 ⟨h.defers,h.size,fun x hx=>(h.fr x hx).mono (Nat.le_refl _) (D':=Dm L loc) ⟨hk.os,hk.tape,hk.output,hk.size,fun x hx hn=>hk.block x hx (fun e=>hn (e ▸ hDb))⟩ (fun _ _ h=>h) (fun _ _ _ h=>h),h.hp.turn ht hu hb hk ho⟩
theorem Ext.turn {loc:Nat→Option Value} {w w' : World} {t:Nat} {u:Value} {b:Nat} (hu:loc t=some u) (hb:ql u=some b) (hk:Kp (fun k=>k=b) w w'):Ext loc w loc w' :=
 ⟨⟨hk.os,hk.tape,hk.output,hk.size,fun x hx hn=>hk.block x hx (fun e=>hn (e ▸ .inr ⟨t,u,hu,hb⟩))⟩,fun _ h => .inl h⟩
theorem z2i {b off:Nat} {t:TypeId} {v:Value} {w:World} {arr:Array Value} {ty:TypeId} (hh:w.heap[b]? = some (.cells arr ty (0,0))) (hs:qy P t=some v.cells.size) (hl:off+v.cells.size≤arr.size) (h1 : ∀ j,j<v.cells.size→(v.cells.getD j undef).oneCell' = true) :
  (Instr.storeAt t (.pointer (some ⟨b,off,none⟩)) v).run P w = .ok () (w.setCells b off v.cells.toList):=by
 have hst:=run_storeCells_cells (P:=P) b off v.cells.toList 0 w (fun j hj=>by
   simp only [Array.length_toList] at hj
   rw [Nat.add_zero,z05 hh,Array.getElem?_eq_getElem (by omega)];rfl) (fun j _=>by simp [World.frozen?,hh]) (fun x hx=>by
   obtain ⟨j,hj,rfl⟩:=List.mem_iff_getElem.1 hx
   simp only [Array.length_toList] at hj
   have:=h1 j hj
   rw [Array.getD_eq_getD_getElem?,Array.getElem?_eq_getElem hj] at this
   simpa using this)
 obtain ⟨i,hi,hsz⟩:=Option.map_eq_some_iff.1 hs
 simp only [Nat.add_zero] at hst
 simp [Instr.storeAt,Instr.sureAddr,storeVar,sizeOf,typeInfo,hi,hsz,hst]
theorem z8d (t:TypeId) (x y:Operand) (tag off:Nat) (pin:Option Nat) (ty:TypeId) (cs ys:List AV) (h:o.op = .store t x y) (hx:s.ev x = .ptr tag off) (hlk:s.hp.lookup tag=some (.boxP pin ty cs)) (hy:z0e (s.ev y)=some ys) (hsz:qy P t=some ys.length)
  (hl:off+ys.length≤cs.length) (hd:o.dst=none):z0L P o s { s with hp:=zO s.hp tag (.boxP pin ty (qM cs off ys)) }:=fun L loc a w hr=>by
 have h1:=hr.ev x (fun _ _=>trivial)
 have h2:=hr.ev y (fun _ _=>trivial)
 rw [hx] at h1
 obtain ⟨_,u,hu,hor⟩:=hr.hp.at' tag _ hlk
 have hor':=hor
 obtain ⟨b,arr,rfl,hh,hasz,hcs,hone,hpin⟩:=hor
 obtain ⟨k1,k2,k3⟩:=z1S h2 hy
 generalize hax:a.eval x=ax at h1
 cases h1 with
 | ptr _ _ _ _ _ hv =>
 obtain rfl:=hv b hu
 have hrun:=z2i (P:=P) (off:=off) (v:=a.eval y) hh (by rw [k1];exact hsz) (by rw [k1,hasz];exact hl) k3
 obtain ⟨arr',g1,g2,g3⟩:=z0D (a.eval y).cells.toList off w arr ty (0,0) hh (by simp;omega)
 have hk:Kp (fun k=>k=b) w (w.setCells b off (a.eval y).cells.toList):=z09 (D:=fun k=>k=b) rfl _ _ _
 have hDb:Dm L loc b := .inr ⟨tag,_,hu,rfl⟩
 have hkd:Kp (Dm L loc) w (w.setCells b off (a.eval y).cells.toList):=z09 hDb _ _ _
 have hget : ∀ j,arr'.getD j undef=if off≤j∧j<off+ys.length then (a.eval y).cells.getD (j-off) undef else arr.getD j undef:=fun j=>by
  rw [Array.getD_eq_getD_getElem?,← Array.getElem?_toList,g2,qK (by simp;omega)]
  simp only [Array.length_toList,k1]
  split
  ·rw [Array.getElem?_toList,Array.getD_eq_getD_getElem?]
  ·rw [Array.getElem?_toList,Array.getD_eq_getD_getElem?]
 unfold Oper.wp
 have he:(execOp a.eval o).run P w = .ok .skip (w.setCells b off (a.eval y).cells.toList):=by simp [execOp,h,hax,hrun]
 rw [he]
 simp only [Oper.upon,hd]
 refine ⟨loc,?_,.turn hu rfl hk⟩
 refine hr.turn hlk hu rfl hk ⟨b,arr',rfl,g1,by rw [g3,qY hl,hasz],fun j z hz=>?_,fun j hj=>?_,hpin⟩
 ·rw [hget]
  rw [qK hl] at hz
  split
  ·rename_i hc
   rw [if_pos hc] at hz
   exact (k2 _ z hz).mono (Nat.le_refl _) hkd (fun _ _ h=>h) (fun _ _ _ h=>h)
  ·rename_i hc
   rw [if_neg hc] at hz
   exact (hcs _ z hz).mono (Nat.le_refl _) hkd (fun _ _ h=>h) (fun _ _ _ h=>h)
 ·rw [hget]
  split
  ·exact k3 _ (by omega)
  ·exact hone j (by omega)
end
def AV.sub (t:Nat) (y:AV):AV→AV
 | .own t'=>if t' = t then y else .own t'
 | .pre t' m=>if t' = t then .zy else .pre t' m
 | .suf t' n m=>if t' = t then .zy else .suf t' n m
 | .ptr t' k=>if t' = t then .zy else .ptr t' k
 | .rptr t' n k j=>if t' = t then .zy else .rptr t' n k j
 | .fn f cs => .fn f (cs.attach.map fun ⟨c,_⟩=>AV.sub t y c)
 | .agg cs => .agg (cs.attach.map fun ⟨c,_⟩=>AV.sub t y c)
 | .tup cs => .tup (cs.attach.map fun ⟨c,_⟩=>AV.sub t y c)
 | x=>x
theorem AV.z3s (t:Nat) (y:AV) (f:Fn) (cs:List AV):AV.sub t y (.fn f cs) = .fn f (cs.map (AV.sub t y)):=by simp [AV.sub]
theorem AV.z1J (t:Nat) (y:AV) (cs:List AV):AV.sub t y (.agg cs) = .agg (cs.map (AV.sub t y)):=by simp [AV.sub]
theorem AV.z1N (t:Nat) (y:AV) (cs:List AV):AV.sub t y (.tup cs) = .tup (cs.map (AV.sub t y)):=by simp [AV.sub]
theorem AV.qm (n:Nat) (f:Fn) (cs:List AV):(AV.fn f cs).okB n=cs.all (AV.okB n):=by simp [AV.okB]
theorem AV.zT (n:Nat) (cs:List AV):(AV.agg cs).okB n=cs.all (AV.okB n):=by simp [AV.okB]
theorem AV.z5J (n:Nat) (cs:List AV):(AV.tup cs).okB n=cs.all (AV.okB n):=by simp [AV.okB]
theorem AR.sub {N N' : Nat} {D D' : Nat→Prop} {loc loc' : Nat→Option Value} {w w' : World} {t:Nat} {y:AV} {x:AV} {v:Value} (h:AR N D loc w x v) (hN:N≤N') (hk:Kp D w w') (hD : ∀ k,k<w.heap.size→D' k→D k)
  (hl : ∀ k u,k<N→k ≠ t→loc' k=some u→loc k=some u) (hy : ∀ v,v.oneCell' = true→(∀ u,loc t=some u→v=u)→AR N' D' loc' w' y v):AR N' D' loc' w' (AV.sub t y x) v:=by
 induction h with
 | p x v h=>simp only [AV.sub];exact .p x v (h.mono hk hD)
 | elt row off b o f hb hnD hc hr=>simp only [AV.sub];exact .elt row off b o f (Nat.lt_of_lt_of_le hb hk.size) (fun h=>hnD (hD _ hb h)) (fun j x h1=>(hk.cell hb hnD).trans (hc j x h1)) (fun j x h1=>(hr j x h1).mono hk hD)
 | ptr t' off v ht h1 h =>
  simp only [AV.sub]
  split
  ·exact .zy _
  ·rename_i e;exact .ptr t' off v (Nat.lt_of_lt_of_le ht hN) h1 fun b hb=>h b (hl t' _ ht e hb)
 | rptr t' n k j v ht h1 h =>
  simp only [AV.sub]
  split
  ·exact .zy _
  ·rename_i e;exact .rptr t' n k j v (Nat.lt_of_lt_of_le ht hN) h1 fun b l c hb=>h b l c (hl t' _ ht e hb)
 | own t' v ht h1 h =>
  simp only [AV.sub]
  split
  ·rename_i e;subst e;exact hy v h1 h
  ·rename_i e;exact .own t' v (Nat.lt_of_lt_of_le ht hN) h1 fun u hu=>h u (hl t' u ht e hu)
 | pre t' m v ht h1 h =>
  simp only [AV.sub]
  split
  ·exact .zy _
  ·rename_i e;exact .pre t' m v (Nat.lt_of_lt_of_le ht hN) h1 fun b l c hb=>h b l c (hl t' _ ht e hb)
 | suf t' n m v ht h1 h =>
  simp only [AV.sub]
  split
  ·exact .zy _
  ·rename_i e;exact .suf t' n m v (Nat.lt_of_lt_of_le ht hN) h1 fun b l c hb=>h b l c (hl t' _ ht e hb)
 | fn f caps vs hlen _ ih =>
  rw [AV.z3s]
  refine .fn f _ vs (by simpa using hlen) fun j x hx=>?_
  simp only [List.getElem?_map,Option.map_eq_some_iff] at hx
  obtain ⟨c,hc,rfl⟩:=hx
  exact ih j c hc
 | agg cs vs hlen _ h1 ih =>
  rw [AV.z1J]
  refine .agg _ vs (by simpa using hlen) (fun j x hx=>?_) h1
  simp only [List.getElem?_map,Option.map_eq_some_iff] at hx
  obtain ⟨c,hc,rfl⟩:=hx
  exact ih j c hc
 | tup cs vs hlen _ ih =>
  rw [AV.z1N]
  refine .tup _ vs (by simpa using hlen) fun j x hx=>?_
  simp only [List.getElem?_map,Option.map_eq_some_iff] at hx
  obtain ⟨c,hc,rfl⟩:=hx
  exact ih j c hc
 | cap0 a h=>simp only [AV.sub];exact .cap0 a fun x hx=>⟨Nat.lt_of_lt_of_le (h x hx).1 hk.size,fun hd=>(h x hx).2.1 (hD _ (h x hx).1 hd),(h x hx).2.2⟩
 | zy v=>simp only [AV.sub];exact .zy v
def AO.sub (t:Nat) (y:AV):AO→AO
 | .boxP pin ty cs => .boxP pin ty (cs.map (AV.sub t y))
 | .map pin P k n f => .map pin P k n f
 | .raw u ob => .raw u ob
 | .lrec l sp fr => .lrec l sp (fr.map fun p=>(p.1,AV.sub t y p.2))
 | .amap P k n f q => .amap P k n (fun l=>(f l).map (AV.sub t y)) q
 | .arow e cs => .arow e (cs.map (AV.sub t y))
 | .afix e m9 len cs => .afix e m9 len (cs.map (AV.sub t y))
 | .row e n rows => .row e n rows
theorem qz {α β:Type} (f : α → β) (l:List (Nat × α)) (k:Nat):(l.map fun p=>(p.1,f p.2)).lookup k=(l.lookup k).map f:=by
 induction l with
 | nil=>rfl
 | cons p r ih =>
  obtain ⟨j,x⟩:=p
  simp only [List.map_cons]
  by_cases e:k=j
  ·subst e;rw [zB,zB];rfl
  ·rw [zo e,zo e,ih]
def ASt.subst (s:ASt) (t:Nat) (y:AV):ASt := { s with fr:=s.fr.map fun p=>(p.1,AV.sub t y p.2),hp:=s.hp.map fun p=>(p.1,p.2.sub t y) }
theorem ASt.z4u (s:ASt) (t k:Nat) (y:AV):(s.subst t y).get k=AV.sub t y (s.get k):=by
 simp only [ASt.get,ASt.subst,qz]
 cases s.fr.lookup k <;> simp [AV.sub]
theorem OR.sub {N N' : Nat} {D D' : Nat→Prop} {loc loc' : Nat→Option Value} {w w' : World} {u:Value} {o:AO} {t:Nat} {y:AV} (h:OR N D loc w u o) (hN:N≤N') (hk:Kp D w w') (hD : ∀ k,k<w.heap.size→D' k→D k)
  (hl : ∀ k u,k<N→k ≠ t→loc' k=some u→loc k=some u) (hy : ∀ v,v.oneCell' = true→(∀ u,loc t=some u→v=u)→AR N' D' loc' w' y v) (hb : ∀ b,ql u=some b→w'.heap[b]? = w.heap[b]?):OR N' D' loc' w' u (o.sub t y):=by
 cases o with
 | map pin P k n f =>
  obtain ⟨b,D,rfl,⟨es,ck,h1,h2⟩,h3⟩:=h
  exact ⟨b,D,rfl,⟨es,ck,(hb b rfl).trans h1,h2⟩,h3⟩
 | amap P k n f q =>
  obtain ⟨b,DD,g,rfl,⟨es,ck,h1,h2⟩,h3,h4,h5⟩:=h
  refine ⟨b,DD,g,rfl,⟨es,ck,(hb b rfl).trans h1,h2⟩,h3,fun kl=>⟨fun x hx=>?_,fun hx=>(h4 kl).2 (by simpa using hx)⟩,h5.mono (hb b rfl)⟩
  obtain ⟨x',hx',rfl⟩:=Option.map_eq_some_iff.1 hx
  obtain ⟨v,k1,k2⟩:=(h4 kl).1 x' hx'
  exact ⟨v,k1,k2.sub hN hk hD hl hy⟩
 | arow e cs =>
  obtain ⟨flat,h1,h3,h4⟩:=h
  refine ⟨flat,by rw [List.length_map];exact qX h1 fun g hg=>hb g (by
   cases u <;> simp [Value.ownBlock] at hg
   rename_i ad _ _
   cases ad <;> simp at hg
   simp [ql,hg]),fun j x hx=>?_,h4⟩
  simp only [List.getElem?_map,Option.map_eq_some_iff] at hx
  obtain ⟨c,hc,rfl⟩:=hx
  obtain ⟨v,h5,h6⟩:=h3 j c hc
  exact ⟨v,h5,h6.sub hN hk hD hl hy⟩
 | afix e m9 len cs =>
  obtain ⟨flat,h1,h3,h4⟩:=h
  refine ⟨flat,qX h1 fun g hg=>hb g (by
   cases u <;> simp [Value.ownBlock] at hg
   rename_i ad _ _
   cases ad <;> simp at hg
   simp [ql,hg]),fun j x hx=>?_,h4⟩
  simp only [List.getElem?_map,Option.map_eq_some_iff] at hx
  obtain ⟨c,hc,rfl⟩:=hx
  obtain ⟨v,h5,h6⟩:=h3 j c hc
  exact ⟨v,h5,h6.sub hN hk hD hl hy⟩
 | raw v ob =>
  obtain ⟨b,rfl,h1,h2⟩:=h
  exact ⟨b,rfl,h1,(hb b h1).trans h2⟩
 | lrec l sp fr =>
  obtain ⟨rfl,tmps,h1,h2,h3⟩:=h
  refine ⟨rfl,tmps,(hb l rfl).trans h1,h2,fun k=>?_⟩
  rw [qz]
  have h4:=h3 k
  cases hf:fr.lookup k with
  | none=>exact .zy _
  | some x=>rw [hf] at h4;exact h4.sub hN hk hD hl hy
 | boxP pin ty cs =>
  obtain ⟨b,arr,rfl,h1,h2,h3,h4⟩:=h
  refine ⟨b,arr,rfl,(hb b rfl).trans h1,by simpa [AO.sub] using h2,fun j x hx=>?_,h4⟩
  simp only [List.getElem?_map,Option.map_eq_some_iff] at hx
  obtain ⟨c,hc,rfl⟩:=hx
  exact (h3 j c hc).sub hN hk hD hl hy
 | row e n rows =>
  obtain ⟨flat,h1,h2,h3,h4⟩:=h
  refine ⟨flat,qX h1 fun g hg=>hb g ?_,h2,fun k r j x hr hx=>?_,h4⟩
  ·cases u <;> simp [Value.ownBlock] at hg
   rename_i ad _ _
   cases ad <;> simp at hg
   simp [ql,hg]
  ·obtain ⟨v,h5,h6⟩:=h3 k r j x hr hx
   exact ⟨v,h5,h6.mono hk hD⟩
theorem PR.flat {D:Nat→Prop} {w:World} {n:Nat} {ys:List (List PV)} {v:Value} (h:PR D w (.seq n ys) v) : ∃ (ad:Option Addr) (c:Nat) (news:List Value),v = .slice ad ys.length c∧(ad=none→c=0∧ys = [])∧news.length=ys.length*n∧(∀ a,ad=some a → ∀ (j:Nat) u,news[j]? = some u→w.cell? (a.add j)=some u)∧(∀ u ∈ news,u.oneCell' = true) ∧
  (∀ r ∈ ys,r.length=n) ∧ ∀ (k:Nat) r (j:Nat) x,ys[k]? = some r→r[j]? = some x → ∃ v,news[k*n+j]? = some v∧PR D w x v:=by
 cases h with
 | nil n a cap h0=>exact ⟨a,cap,[],rfl,fun e=>⟨h0 e,rfl⟩,by simp,fun a' e j u hu=>(by simp at hu),fun u hu=>(by cases hu),fun r hr=>(by cases hr),fun k r j x h=>(by simp at h)⟩
 | seq n b off cap rows f hb hnD hcap hmax hn hc hr =>
  have hidx : ∀ j,j<ys.length*n → ∃ r x,ys[j / n]? = some r∧r[j % n]? = some x:=fun j hj=>by
   have hn0 : 0<n:=Nat.pos_of_ne_zero fun e=>by subst e;simp at hj
   have h1:j / n<ys.length:=Nat.div_lt_of_lt_mul (by rwa [Nat.mul_comm])
   have h2:j % n<ys[j / n].length:=by rw [hn _ (List.getElem_mem h1)];exact Nat.mod_lt _ hn0
   exact ⟨_,_,List.getElem?_eq_getElem h1,List.getElem?_eq_getElem h2⟩
  refine ⟨some ⟨b,off,none⟩,cap,(List.range (ys.length*n)).map fun j=>f (j / n) (j % n),rfl,fun e=>(by cases e),by simp,fun a e j u hu=>?_,fun u hu=>?_,hn,fun k r j x hk hx=>?_⟩
  ·cases e
   simp only [List.getElem?_map,Option.map_eq_some_iff] at hu
   obtain ⟨j',hj',rfl⟩:=hu
   obtain ⟨hlt,rfl⟩:=List.getElem?_eq_some_iff.1 hj'
   simp only [List.length_range] at hlt
   simp only [List.getElem_range]
   obtain ⟨r,x,h1,h2⟩:=hidx j hlt
   rw [Addr.add_mid,← hc _ r _ x h1 h2]
   congr 2
   have:=Nat.div_add_mod j n
   rw [Nat.mul_comm] at this
   omega
  ·obtain ⟨j,hj,rfl⟩:=List.mem_map.1 hu
   obtain ⟨r,x,h1,h2⟩:=hidx j (List.mem_range.1 hj)
   exact (hr _ r _ x h1 h2).one
  ·have hkl:=(List.getElem?_eq_some_iff.1 hk).1
   have hjl:=(List.getElem?_eq_some_iff.1 hx).1
   rw [hn r (List.mem_of_getElem? hk)] at hjl
   have hlt:k*n+j<ys.length*n:=by
    have:(k+1)*n≤ys.length*n:=Nat.mul_le_mul_right n hkl
    rw [Nat.add_mul] at this
    omega
   refine ⟨f k j,?_,hr k r j x hk hx⟩
   rw [List.getElem?_map,List.getElem?_range hlt]
   have e1:(k*n+j) / n=k:=by rw [Nat.mul_comm,Nat.mul_add_div (by omega),Nat.div_eq_of_lt hjl];rfl
   have e2:(k*n+j) % n=j:=by rw [Nat.mul_comm,Nat.mul_add_mod,Nat.mod_eq_of_lt hjl]
   simp [e1,e2]
theorem z1D {D:Nat→Prop} {w:World} {n:Nat} {rows ys:List (List PV)} {flat news:List Value} (hl:flat.length=rows.length*n) (h1 : ∀ (k:Nat) r (j:Nat) x,rows[k]? = some r→r[j]? = some x → ∃ v,flat[k*n+j]? = some v∧PR D w x v)
  (h2 : ∀ (k:Nat) r (j:Nat) x,ys[k]? = some r→r[j]? = some x → ∃ v,news[k*n+j]? = some v∧PR D w x v) : ∀ (k:Nat) r (j:Nat) x,(rows++ys)[k]? = some r→r[j]? = some x → ∃ v,(flat++news)[k*n+j]? = some v∧PR D w x v:=fun k r j x hk hx=>by
 rw [List.getElem?_append] at hk
 split at hk
 ·rename_i hlt
  obtain ⟨v,h3,h4⟩:=h1 k r j x hk hx
  exact ⟨v,by rw [List.getElem?_append,if_pos (List.getElem?_eq_some_iff.1 h3).1];exact h3,h4⟩
 ·rename_i hge
  obtain ⟨v,h3,h4⟩:=h2 _ r j x hk hx
  refine ⟨v,?_,h4⟩
  have:rows.length*n≤k*n:=Nat.mul_le_mul_right n (by omega)
  rw [List.getElem?_append,if_neg (by omega),hl,← h3]
  congr 1
  rw [Nat.sub_mul]
  omega
structure ElemTy (P:Program) (t:TypeId) (e n bytes:Nat):Prop where
 h : ∃ i z,P.underlying t=some (.slice e)∧P.info? e=some i∧i.zero=some z∧i.size=n∧i.bytes=bytes∧z.cells.size=n ∧ 0<n
def zY (P:Program) (t:TypeId):Option (Nat × Nat × Nat):=match P.underlying t with
 | some (.slice e)=>match P.info? e with
  | some i=>match i.zero with
   | some z=>if z.cells.size=i.size ∧ 0<i.size then some (e,i.size,i.bytes) else none
   | none=>none
  | none=>none
 | _=>none
theorem z0g {P:Program} {t:TypeId} {e n bytes:Nat} (h:zY P t=some (e,n,bytes)):ElemTy P t e n bytes:=by
 unfold zY at h
 split at h
 ·rename_i e' hu
  split at h
  ·rename_i i hi
   split at h
   ·rename_i z hz
    split at h
    ·rename_i hc
     cases h
     exact ⟨i,z,hu,hi,hz,rfl,rfl,hc.1,hc.2⟩
    ·cases h
   ·cases h
  ·cases h
 ·cases h
theorem z0z {P:Program} {t ty:TypeId} {e n bytes:Nat} (ht:ElemTy P t e n bytes) {w:World} {v:Value} {m:Nat} {xs:List Value} (hown:w.ownsRow 0 e n v m xs) {D:Nat→Prop} {ys:List (List PV)} {u:Value} (hu:PR D w (.seq n ys) u)
  (h63:m+ys.length≤maxLen) (hbytes:(m+ys.length)*bytes≤140737488355328) : ∃ (v' : Value) (w' : World) (news:List Value),(Builtin.append_ #[t,t] ty #[v,u]).run P w = .ok v' w' ∧ w'.ownsRow 0 e n v' (m+ys.length) (xs++news)∧w.grownBy w' v.ownBlock∧(v'.ownBlock=v.ownBlock∨v'.ownBlock=some w.heap.size) ∧
   (∀ u ∈ news,u.oneCell' = true)∧(∀ r ∈ ys,r.length=n) ∧ ∀ (k:Nat) r (j:Nat) x,ys[k]? = some r→r[j]? = some x → ∃ v,news[k*n+j]? = some v∧PR D w x v:=by
 obtain ⟨i,z,hu',hi,hz,hsz,hby,hzs,hn0⟩:=ht.h
 obtain ⟨ad,c,news,rfl,hnil,hlen,hcell,hone,hrn,hpr⟩:=hu.flat
 cases ad with
 | none =>
  obtain ⟨rfl,rfl⟩:=hnil rfl
  have:news = []:=List.eq_nil_of_length_eq_zero (by simpa using hlen)
  subst this
  exact ⟨v,w,[],run_append_owned_none (P:=P) (w:=w) 0 t ty e i n hu' hi v m xs hown,by simpa using hown,⟨rfl,rfl,rfl,Nat.le_refl _,fun _ _ _=>rfl⟩,.inl rfl,hone,hrn,hpr⟩
 | some a =>
  obtain ⟨v',w',hr',h2,h3,_,h5⟩:=run_append_own_at (P:=P) w 0 t ty e i z n bytes hu' hi hz hsz hby hzs hn0 v m xs hown a ys.length c news hlen (hcell a rfl) hone h63 hbytes (Nat.zero_le _)
  exact ⟨v',w',news,hr',h2,h3,h5,hone,hrn,hpr⟩
theorem z0u {v:Value} {b:Nat} (h:v.ownBlock=some b):ql v=some b:=by
 cases v <;> simp [Value.ownBlock] at h
 rename_i ad _ _
 cases ad <;> simp at h
 simp [ql,h]
theorem z5N {w:World} {B:Nat} {e:TypeId} {n m:Nat} {v:Value} {xs:List Value} (h:w.ownsRow B e n v m xs) {b:Nat} (hb:ql v=some b):v.ownBlock=some b:=by
 rcases h.2 with ⟨rfl,_⟩|⟨g,c,cur,rfl,_⟩
 ·cases hb
 ·exact hb
section
variable {P:Program} {ops:Array Oper} {o:Oper} {s:ASt}
theorem z3q (tag:Nat) (e n:Nat) (rows ys:List (List PV)) (hlk:s.hp.lookup tag=some (.row e n rows)) (hd : ∀ t,o.dst=some t→t<s.n)
  (H : ∀ (L:Lim) loc a w u flat,Rel All L s loc a w→loc tag=some u→w.ownsRow 0 e n u rows.length flat → ∃ (v' : Value) (w' : World) (news:List Value),(execOp a.eval o).run P w = .ok (.value v') w' ∧ w'.ownsRow 0 e n v' (rows.length+ys.length) (flat++news)∧w.grownBy w' u.ownBlock∧(∀ b,ql v' = some b→ql u=some b∨w.heap.size≤b) ∧
   (∀ u ∈ news,u.oneCell' = true)∧(∀ r ∈ ys,r.length=n) ∧ ∀ (k:Nat) r (j:Nat) x,ys[k]? = some r→r[j]? = some x → ∃ v,news[k*n+j]? = some v∧PR (Dm L loc) w x v) :
  z0L P o s (ASt.put { s.subst tag .zy with hp:=zO (s.subst tag .zy).hp tag (.row e n (rows++ys)) } o.dst (.own tag)):=fun L loc a w hr=>by
 obtain ⟨htN,u,hu,hor⟩:=hr.hp.at' tag _ hlk
 obtain ⟨flat,hown,hrn,hfl,hone⟩:=hor
 obtain ⟨v',w',news,hrun',hown',hg,hblk,hone2,hyn,hpr⟩:=H L loc a w u flat hr hu hown
 have hDu : ∀ b,u.ownBlock=some b→Dm L loc b:=fun b hb => .inr ⟨tag,u,hu,z0u hb⟩
 have hk:Kp (Dm L loc) w w':=⟨hg.os,hg.tape,hg.output,hg.size,fun k hk hn=>hg.block k hk (fun e=>hn (hDu k e.symm))⟩
 have hD : ∀ k,k<w.heap.size→Dm L (qj loc tag v') k→Dm L loc k:=fun k hk hd=>(z19 hd).elim (fun e=>(hblk k e).elim (fun e' => .inr ⟨tag,u,hu,e'⟩) (fun e'=>by omega)) id
 have hlc : ∀ k z,k<s.N→k ≠ tag→qj loc tag v' k=some z→loc k=some z:=fun k z _ hne hz=>by rwa [zM _ _ hne] at hz
 have hv1:v'.oneCell' = true:=by rcases hown'.2 with ⟨rfl,_⟩|⟨g,c,cur,rfl,_⟩ <;> rfl
 unfold Oper.wp
 rw [hrun']
 refine ⟨qj loc tag v',?_,⟨⟨hg.os,hg.tape,hg.output,hg.size,fun k hk hn=>hg.block k hk (fun e=>hn (.inr ⟨tag,u,hu,z0u e.symm⟩))⟩,fun b hb=>?_⟩⟩
 ·refine Rel.put' (s := { s.subst tag .zy with hp:=zO (s.subst tag .zy).hp tag (.row e n (rows++ys)) }) ⟨hr.defers,hr.size,fun t _=>?_,⟨fun t ob ht=>?_,fun t ht=>?_,fun t t' z z' b e1 e2 e3 e4=>?_,fun b hL=>Nat.lt_of_lt_of_le (hr.hp.inL b hL) hg.size,fun t z b e1 e2 hL=>?_⟩⟩ hd (.own tag v' htN hv1 fun z hz=>?_)
  ·show AR s.N _ _ _ ((s.subst tag .zy).get t) _
   rw [ASt.z4u]
   exact (hr.fr t trivial).sub (Nat.le_refl _) hk hD hlc (fun v _ _ => .zy v)
  ·change (zO _ _ _).lookup t=some ob at ht
   rw [qL] at ht
   have hm:(s.subst tag .zy).hp.lookup tag=some ((AO.row e n rows).sub tag .zy):=by simp only [ASt.subst,qz,hlk];rfl
   by_cases e:t=tag
   ·subst e
    rw [if_pos rfl,hm] at ht
    cases ht
    refine ⟨htN,v',zQ _ _ _,flat++news,by rw [List.length_append];exact hown',fun r hr'=>(List.mem_append.1 hr').elim (hrn r) (hyn r),?_,fun v hv=>(List.mem_append.1 hv).elim (hone v) (hone2 v)⟩
    have:=z1D hown.1 hfl hpr
    exact fun k r j x h1 h2=>let ⟨v,h3,h4⟩:=this k r j x h1 h2;⟨v,h3,h4.mono hk hD⟩
   ·rw [if_neg e] at ht
    simp only [ASt.subst,qz,Option.map_eq_some_iff] at ht
    obtain ⟨ob',hob,rfl⟩:=ht
    obtain ⟨h5,z,h6,h7⟩:=hr.hp.at' t ob' hob
    refine ⟨h5,z,by rw [zM _ _ e];exact h6,h7.sub (Nat.le_refl _) hk hD hlc (fun v _ _ => .zy v) (fun b hb=>hg.block b (h7.z0n hb) (fun e'=>?_))⟩
    exact e (hr.hp.apart t tag z u b h6 hu hb (z0u e'.symm))
  ·change (zO _ _ _).lookup t=none at ht
   rw [qL] at ht
   by_cases e:t=tag
   ·subst e;rw [if_pos rfl] at ht;simp [ASt.subst,qz,hlk] at ht
   ·rw [if_neg e] at ht
    simp only [ASt.subst,qz,Option.map_eq_none_iff] at ht
    rw [zM _ _ e];exact hr.hp.dead t ht
  ·by_cases h5:t=tag
   ·by_cases h6:t' = tag
    ·rw [h5,h6]
    ·subst h5
     rw [zQ] at e1;cases e1
     rw [zM _ _ h6] at e2
     rcases hblk b e3 with e5|e5
     ·exact absurd (hr.hp.apart t t' u z' b hu e2 e5 e4).symm h6
     ·obtain ⟨o',_,ho'⟩:=hr.hp.z1k e2
      have:=ho'.z0n e4
      omega
   ·by_cases h6:t' = tag
    ·subst h6
     rw [zQ] at e2;cases e2
     rw [zM _ _ h5] at e1
     rcases hblk b e4 with e5|e5
     ·exact absurd (hr.hp.apart t t' z u b e1 hu e3 e5) h5
     ·obtain ⟨o',_,ho'⟩:=hr.hp.z1k e1
      have:=ho'.z0n e3
      omega
    ·rw [zM _ _ h5] at e1
     rw [zM _ _ h6] at e2
     exact hr.hp.apart t t' z z' b e1 e2 e3 e4
  ·by_cases h5:t=tag
   ·subst h5
    rw [zQ] at e1;cases e1
    rcases hblk b e2 with e5|e5
    ·exact hr.hp.notL t u b hu e5 hL
    ·have:=hr.hp.inL b hL;omega
   ·rw [zM _ _ h5] at e1
    exact hr.hp.notL t z b e1 e2 hL
  ·rw [zQ] at hz;cases hz;rfl
 ·rcases z19 hb with e'|e'
  ·rcases hblk b e' with e5|e5
   ·exact .inl (.inr ⟨tag,u,hu,e5⟩)
   ·exact .inr (by omega)
  ·exact .inl e'
theorem op_append (x y:Operand) (ty tag:Nat) (e n bytes:Nat) (rows ys:List (List PV)) (h:o.op = .call { callee := .builtin .append,args := #[x,y],argTypes := #[ty,ty] }) (hx:s.ev x = .own tag) (hlk:s.hp.lookup tag=some (.row e n rows))
  (ht:zY P ty=some (e,n,bytes)) (hy:s.ev y = .p (.seq n ys)) (h63:rows.length+ys.length≤maxLen) (hbytes:(rows.length+ys.length)*bytes≤140737488355328) (hd : ∀ t,o.dst=some t→t<s.n) :
  z0L P o s (ASt.put { s.subst tag .zy with hp:=zO (s.subst tag .zy).hp tag (.row e n (rows++ys)) } o.dst (.own tag)) :=
 z3q tag e n rows ys hlk hd fun L loc a w u flat hr hu hown=>by
 have h1:=hr.ev x (fun _ _=>trivial)
 have h2:=hr.ev y (fun _ _=>trivial)
 rw [hx] at h1
 rw [hy] at h2
 generalize hax:a.eval x=ax at h1
 cases h1 with
 | own _ _ _ _ hv =>
 obtain rfl:u=ax:=(hv u hu).symm
 generalize hay:a.eval y=ay at h2
 cases h2 with
 | p _ _ hp =>
 obtain ⟨v',w',news,hrun,hown',hg,hat,hone2,hyn,hpr⟩:=z0z (P:=P) (ty:=o.type) (z0g ht) hown hp h63 hbytes
 refine ⟨v',w',news,?_,hown',hg,fun b hb=>?_,hone2,hyn,hpr⟩
 ·simp only [execOp,h,resolve,invoke,builtin,Sem.run_bind,Sem.run_pure,Result.andThen_ok,List.map_toArray,List.map_cons,List.map_nil,hax,hay,hrun]
 ·have hb':=z5N hown' hb
  rcases hat with e'|e'
  ·rw [e'] at hb';exact .inl (z0u hb')
  ·rw [e'] at hb';cases hb';exact .inr (Nat.le_refl _)
def z0t (l:List UInt8):List (List PV):=l.map fun b => [.val (.int .u8 b.toNat)]
def appS (P:Program) (ty ty' : TypeId):Option Nat:=match P.underlying ty,P.underlying ty' with
 | some (.slice e),some .string=>match P.info? e with
  | some i=>match i.zero with
   | some (.int .u8 0)=>if i.size=1∧i.bytes=1 then some e else none
   | _=>none
  | none=>none
 | _,_=>none
theorem z6y (x y:Operand) (ty ty' tag:Nat) (e:Nat) (rows:List (List PV)) (b:ByteArray) (h:o.op = .call { callee := .builtin .append,args := #[x,y],argTypes := #[ty,ty'] }) (hx:s.ev x = .own tag) (hlk:s.hp.lookup tag=some (.row e 1 rows))
  (ht:appS P ty ty' = some e) (hy:s.ev y = .p (.val (.string b))) (hl:rows.length+b.size≤140737488355328) (hd : ∀ t,o.dst=some t→t<s.n) :
  z0L P o s (ASt.put { s.subst tag .zy with hp:=zO (s.subst tag .zy).hp tag (.row e 1 (rows++z0t b.data.toList)) } o.dst (.own tag)) :=
 z3q tag e 1 rows (z0t b.data.toList) hlk hd fun L loc a w u flat hr hu hown=>by
 have h1:=hr.ev x (fun _ _=>trivial)
 have h2:=hr.ev y (fun _ _=>trivial)
 rw [hx] at h1
 rw [hy] at h2
 generalize hax:a.eval x=ax at h1
 cases h1 with
 | own _ _ _ _ hv =>
 obtain rfl:u=ax:=(hv u hu).symm
 have hay:=h2.val
 obtain ⟨i,e1,e2,e3,e4,e5,e6⟩ : ∃ i,P.underlying ty=some (.slice e)∧P.underlying ty' = some .string∧P.info? e=some i∧i.zero=some (.int .u8 0)∧i.size=1∧i.bytes=1:=by
  unfold appS at ht
  split at ht
  ·rename_i e' k1 k2
   split at ht
   ·rename_i i k3
    split at ht
    ·rename_i k4
     split at ht
     ·rename_i k5;cases ht;exact ⟨i,k1,k2,k3,k4,k5.1,k5.2⟩
     ·cases ht
    ·cases ht
   ·cases ht
  ·cases ht
 have hml:rows.length+b.size≤maxLen:=by unfold maxLen;omega
 have hbl:(z0t b.data.toList).length=b.size:=by rw [z0t,List.length_map,Array.length_toList];rfl
 obtain ⟨v',w',hrun,hown',hg,_⟩:=Go.Lib.run_append_own_string (P:=P) w 0 ty ty' o.type e i e1 e2 e3 e4 e5 e6 u rows.length flat hown b hml hl (Nat.zero_le _)
 refine ⟨v',w',Go.Lib.strCells b,?_,by rw [hbl];exact hown',hg,fun g hgb=>?_,Go.Lib.strCells_oneCell b,fun r hr=>?_,fun k r j x hk hx=>?_⟩
 ·simp only [execOp,h,resolve,invoke,builtin,Sem.run_bind,Sem.run_pure,Result.andThen_ok,List.map_toArray,List.map_cons,List.map_nil,hax,hay,hrun]
 ·have hown2:=hown
  rcases hown.2 with ⟨rfl,h0⟩|⟨g1,cap,cur,rfl,_,hg1,hle,hmx,hcs,htk⟩
  ·have hnl:flat = []:=List.eq_nil_of_length_eq_zero (by rw [hown.1,h0])
   rw [h0,hnl] at hown2
   obtain ⟨v2,w2,hrun2,hown3,_⟩:=Go.Lib.run_append_own_string (P:=P) w w.heap.size ty ty' o.type e i e1 e2 e3 e4 e5 e6 (.slice none 0 0) 0 [] (World.ownsRow_nil _ _ _ _) b (by omega) (by omega) (Nat.le_refl _)
   rw [hrun] at hrun2
   cases hrun2
   rcases hown3.2 with ⟨rfl,_⟩|⟨g2,_,_,rfl,hge,_⟩
   ·cases hgb
   ·simp only [ql,Option.some.injEq] at hgb
    exact .inr (hgb ▸ hge)
  ·by_cases hroom:rows.length+b.size≤cap
   ·have hr2:=Go.Lib.run_append_room_string (P:=P) w ty ty' o.type e i e1 e2 e3 e5 g1 rows.length cap cur hg1 b hroom (by rw [hcs];omega)
    rw [hrun] at hr2
    cases hr2
    exact .inl hgb
   ·have hr2:=Go.Lib.run_append_grow_string (P:=P) w ty ty' o.type e i (.int .u8 0) e1 e2 e3 e4 ⟨g1,0,none⟩ rows.length cap flat (by rw [hown.1,e5]) (hown.cells (g:=g1) rfl) b (by omega) (by omega) (by rw [e6];exact growslice_fits (by omega) (by omega))
    rw [hrun] at hr2
    cases hr2
    simp only [ql,Option.some.injEq] at hgb
    exact .inr (Nat.le_of_eq hgb)
 ·simp only [z0t,List.mem_map] at hr
  obtain ⟨_,_,rfl⟩:=hr
  rfl
 ·simp only [z0t,List.getElem?_map,Option.map_eq_some_iff] at hk
  obtain ⟨c,hc,rfl⟩:=hk
  match j,hx with
  | 0,hx =>
   cases hx
   exact ⟨_,by simp [Go.Lib.strCells,hc],.val _ rfl⟩
end
def AVle (x y:AV):Prop := ∀ N D loc w v,AR N D loc w x v→AR N D loc w y v
theorem AVle.refl (x:AV):AVle x x:=fun _ _ _ _ _ h=>h
theorem AVle.zy (x:AV):AVle x .zy:=fun _ _ _ _ v _ => .zy v
theorem AVle.nil (n:Nat):AVle (.p (.val (.slice none 0 0))) (.p (.seq n [])):=fun _ _ _ _ _ h=>by
 rw [h.val];exact .p _ _ (.nil n none 0 fun _=>rfl)
noncomputable def AO.okB (n:Nat):AO→Bool
 | .boxP _ _ cs=>cs.all (·.okB n)
 | .arow _ cs=>cs.all (·.okB n)
 | .afix _ _ _ cs=>cs.all (·.okB n)
 | .lrec _ _ fr=>fr.all fun p=>p.2.okB n
 | .row _ _ _=>true
 | .map _ _ _ _ _=>true
 | .raw _ _=>true
 | .amap _ _ _ f _=>open Classical in decide (∀ l x,f l=some x→x.okB n=true)
noncomputable def ASt.okB (s:ASt):Bool:=s.fr.all (fun p=>p.2.okB s.N)&&s.hp.all (fun p=>decide (p.1<s.N)&&p.2.okB s.N)
theorem qQ {α:Type} {l:List (Nat × α)} {t:Nat} {x : α} (h:l.lookup t=some x):(t,x) ∈ l:=by
 induction l with
 | nil=>cases h
 | cons p r ih =>
  obtain ⟨j,y⟩:=p
  by_cases e:t=j
  ·subst e;rw [zB] at h;cases h;exact List.mem_cons.2 (.inl rfl)
  ·rw [zo e] at h;exact List.mem_cons.2 (.inr (ih h))
theorem OR.low {N n:Nat} {D:Nat→Prop} {loc:Nat→Option Value} {w:World} {u:Value} {o:AO} (h:OR N D loc w u o) (hx:o.okB n=true):OR n D loc w u o:=by
 cases o with
 | map b P k n f=>exact h
 | amap P k m f q =>
  obtain ⟨b,DD,g,rfl,h1,h3,h4,h5⟩:=h
  simp only [AO.okB,decide_eq_true_eq] at hx
  exact ⟨b,DD,g,rfl,h1,h3,fun kl=>⟨fun x hf=>let ⟨v,k1,k2⟩:=(h4 kl).1 x hf;⟨v,k1,k2.low (hx kl x hf)⟩,(h4 kl).2⟩,h5⟩
 | arow e cs =>
  obtain ⟨flat,h1,h3,h4⟩:=h
  exact ⟨flat,h1,fun j x hj=>let ⟨v,k1,k2⟩:=h3 j x hj;⟨v,k1,k2.low (List.all_eq_true.1 hx x (List.mem_of_getElem? hj))⟩,h4⟩
 | afix e m9 len cs =>
  obtain ⟨flat,h1,h3,h4⟩:=h
  exact ⟨flat,h1,fun j x hj=>let ⟨v,k1,k2⟩:=h3 j x hj;⟨v,k1,k2.low (List.all_eq_true.1 hx x (List.mem_of_getElem? hj))⟩,h4⟩
 | raw v ob=>exact h
 | lrec l sp fr =>
  obtain ⟨rfl,tmps,h1,h2,h3⟩:=h
  refine ⟨rfl,tmps,h1,h2,fun t=>?_⟩
  have h4:=h3 t
  cases hf:fr.lookup t with
  | none=>exact .zy _
  | some x=>rw [hf] at h4;exact h4.low (List.all_eq_true.1 hx _ (qQ hf))
 | boxP pin ty cs =>
  obtain ⟨b,arr,rfl,h1,h2,h3,h4⟩:=h
  exact ⟨b,arr,rfl,h1,h2,fun j x hj=>(h3 j x hj).low (List.all_eq_true.1 hx x (List.mem_of_getElem? hj)),h4⟩
 | row e n rows=>exact h
theorem zi.of {s s' : ASt} (hn:s'.n=s.n) (hfr : ∀ p ∈ s'.fr,AVle (s.get p.1) p.2) (hhp : ∀ p ∈ s'.hp,s.hp.lookup p.1=some p.2) (hok:s'.okB=true):zi s s':=fun L loc a w hr=>by
 simp only [ASt.okB,Bool.and_eq_true,List.all_eq_true,decide_eq_true_eq] at hok
 obtain ⟨ok1,ok2⟩:=hok
 let loc' : Nat→Option Value:=fun t=>if (s'.hp.lookup t).isSome then loc t else none
 have hl : ∀ t u,loc' t=some u→loc t=some u:=fun t u h=>by
  simp only [loc'] at h
  split at h
  ·exact h
  ·cases h
 have hD : ∀ k,Dm L loc' k→Dm L loc k:=fun k hk=>hk.imp id fun ⟨t,u,h1,h2⟩=>⟨t,u,hl t u h1,h2⟩
 refine ⟨loc',⟨hr.defers,hr.size.trans hn.symm,fun t _=>?_,⟨fun t o ht=>?_,fun t ht=>?_,fun t t' u u' b h1 h2=>hr.hp.apart t t' u u' b (hl _ _ h1) (hl _ _ h2),hr.hp.inL,fun t u b h1=>hr.hp.notL t u b (hl _ _ h1)⟩⟩,⟨Kp.refl _ _,fun b hb => .inl (hb.imp id fun ⟨t,u,h1,h2⟩=>⟨t,u,hl t u h1,h2⟩)⟩⟩
 ·unfold ASt.get
  cases ht:s'.fr.lookup t with
  | none=>exact .zy _
  | some x =>
   have hm:=qQ ht
   have h1:=hfr _ hm _ _ _ _ _ (hr.fr t trivial)
   exact (h1.low (ok1 _ hm)).mono (Nat.le_refl _) (Kp.refl _ _) (fun k _ h=>hD k h) (fun t u _ h=>hl t u h)
 ·have hm:=qQ ht
  have h1:=hhp _ hm
  obtain ⟨_,u,h3,h4⟩:=hr.hp.at' t o h1
  have h5:=ok2 _ hm
  refine ⟨h5.1,u,by simp [loc',ht,h3],(h4.low h5.2).mono (Nat.le_refl _) (Kp.refl _ _) (fun k _ h=>hD k h) (fun t u _ h=>hl t u h) (fun _ _=>rfl)⟩
 ·simp [loc',ht]
def ASt.frz (s:ASt) (t:Nat):ASt:=match s.hp.lookup t with
 | some (.row _ n rows) => { s.subst t (.p (.seq n rows)) with hp:=(s.subst t (.p (.seq n rows))).hp.filter fun p=>p.1 != t }
 | _=>s
theorem z0a {α:Type} (l:List (Nat × α)) (t k:Nat):(l.filter fun p=>p.1 != t).lookup k=if k=t then none else l.lookup k:=by
 induction l with
 | nil=>simp
 | cons p r ih =>
  obtain ⟨j,x⟩:=p
  by_cases e:j=t
  ·subst e
   rw [List.filter_cons,if_neg (by simp),ih]
   by_cases ek:k=j
   ·rw [if_pos ek,if_pos ek]
   ·rw [if_neg ek,if_neg ek,zo ek]
  ·rw [List.filter_cons,if_pos (by simpa using e)]
   by_cases ek:k=j
   ·subst ek;rw [zB,zB,if_neg e]
   ·rw [zo ek,zo ek,ih]
theorem zi.frz (s:ASt) (t:Nat):zi s (s.frz t):=by
 unfold ASt.frz
 split
 ·rename_i e n rows hlk
  intro L loc a w hr
  obtain ⟨htN,u,hu,hor⟩:=hr.hp.at' t _ hlk
  let loc' : Nat→Option Value:=fun k=>if k=t then none else loc k
  have hl : ∀ k u,loc' k=some u→k ≠ t∧loc k=some u:=fun k u h=>by
   simp only [loc'] at h
   split at h
   ·cases h
   ·rename_i e;exact ⟨e,h⟩
  have hD : ∀ k,Dm L loc' k→Dm L loc k:=fun k hk=>hk.imp id fun ⟨t,u,h1,h2⟩=>⟨t,u,(hl t u h1).2,h2⟩
  have hnb : ∀ b,ql u=some b → ¬ Dm L loc' b:=fun b hb hd=>hd.elim (fun h=>hr.hp.notL t u b hu hb h) (fun ⟨t',u',h1,h2⟩=>(hl t' u' h1).1 (hr.hp.apart t' t u' u b (hl t' u' h1).2 hu h2 hb))
  have hpr:PR (Dm L loc') w (.seq n rows) u:=hor.seq hD hnb
  have hy : ∀ v,v.oneCell' = true→(∀ z,loc t=some z→v=z)→AR s.N (Dm L loc') loc' w (.p (.seq n rows)) v:=fun v _ hv=>by rw [hv u hu];exact .p _ _ hpr
  refine ⟨loc',⟨hr.defers,hr.size,fun k _=>?_,⟨fun k o ht=>?_,fun k ht=>?_,fun k k' z z' b h1 h2=>hr.hp.apart k k' z z' b (hl _ _ h1).2 (hl _ _ h2).2,hr.hp.inL,fun k z b h1=>hr.hp.notL k z b (hl _ _ h1).2⟩⟩,⟨Kp.refl _ _,fun b hb => .inl (hb.imp id fun ⟨t,u,h1,h2⟩=>⟨t,u,(hl t u h1).2,h2⟩)⟩⟩
  ·show AR _ _ _ _ ((s.subst t _).get k) _
   rw [ASt.z4u]
   exact (hr.fr k trivial).sub (Nat.le_refl _) (Kp.refl _ _) (fun k _ h=>hD k h) (fun k z _ hne h=>(hl k z h).2) hy
  ·change List.lookup k (List.filter _ _)=some o at ht
   rw [z0a] at ht
   split at ht
   ·cases ht
   ·rename_i hne
    simp only [ASt.subst,qz,Option.map_eq_some_iff] at ht
    obtain ⟨ob,h1,rfl⟩:=ht
    obtain ⟨h2,z,h3,h4⟩:=hr.hp.at' k ob h1
    exact ⟨h2,z,by simp [loc',hne,h3],h4.sub (Nat.le_refl _) (Kp.refl _ _) (fun k _ h=>hD k h) (fun k z _ hne h=>(hl k z h).2) hy (fun _ _=>rfl)⟩
  ·change List.lookup k (List.filter _ _)=none at ht
   rw [z0a] at ht
   split at ht
   ·rename_i e;simp [loc',e]
   ·rename_i hne
    simp only [ASt.subst,qz,Option.map_eq_none_iff] at ht
    simp [loc',hne,hr.hp.dead k ht]
 ·exact zi.refl s
theorem zi.z3p (s:ASt) (t e n:Nat) (ht:t<s.n) (h:s.get t = .p (.val (.slice none 0 0))):zi s ((s.add (.row e n [])).put (some t) (.own s.N)):=fun L loc a w hr=>by
 have hs:slot a t = .slice none 0 0:=by have:=hr.fr t trivial;rw [h] at this;exact this.val
 have hb:=Blw.refl w.heap.size w
 have h1:=hr.add hb (.slice none 0 0) (.row e n []) (fun b e=>by cases e) ⟨[],World.ownsRow_nil _ _ _ _,fun r hr=>(by cases hr),fun k r j x h=>(by simp at h),fun v hv=>(by cases hv)⟩
 refine ⟨qj loc s.N (.slice none 0 0),?_,.add hb _ _ (fun b e=>by cases e)⟩
 have h2:=h1.put (d:=t) ht (x := .own s.N) (v := .slice none 0 0) (.own s.N _ (Nat.lt_succ_self _) rfl fun u hu=>by rw [zQ] at hu;cases hu;rfl)
 have e:a.put (some t) (.slice none 0 0)=a:=by
  refine z5o (by rw [size_put]) rfl fun k=>?_
  rw [qi a t k _ (by rw [hr.size];exact ht)]
  split
  ·rename_i hk;rw [hk,hs]
  ·rfl
 rw [e] at h2
 exact ⟨h2.defers,h2.size,fun k _=>h2.fr k (.inr trivial),h2.hp⟩
def frOf:Nat→List AV→List (Nat × AV)
 | _,[] => []
 | k,x :: r=>(k,x) :: frOf (k+1) r
def z13 (xs:List AV) (n:Nat):ASt:=⟨frOf 0 xs,[],n,0⟩
theorem z1E : ∀ (xs:List AV) (k t:Nat),(frOf k xs).lookup t=if k≤t then xs[t-k]? else none
 | [],k,t=>by simp [frOf]
 | x :: r,k,t=>by
  rw [frOf]
  by_cases e:t=k
  ·subst e;rw [zB,if_pos (Nat.le_refl _)];simp
  ·rw [zo e,z1E r (k+1) t]
   by_cases h:k+1≤t
   ·rw [if_pos h,if_pos (by omega),show t-k=(t-(k+1))+1 by omega];rfl
   ·rw [if_neg h,if_neg (by omega)]
def zw (P:Program) (s:ASt):ResultVar→Option AV
 | .tmp t=>some (s.get t)
 | .cell t ty=>match s.get t with
  | .ptr tag off=>z4n P s ty (.ptr tag off)
  | _=>none
def zu (P:Program) (s:ASt):List ResultVar→Option (List AV)
 | []=>some []
 | r :: rs=>match zw P s r,zu P s rs with
  | some x,some xs=>some (x :: xs)
  | _,_=>none
def zI (P:Program) (s:ASt) (rs:List ResultVar):Option AV:=match zu P s rs with
 | some [x]=>some x
 | some xs=>some (.tup xs)
 | none=>none
theorem load_ptr {P:Program} {X:Nat→Prop} {L:Lim} {s:ASt} {loc:Nat→Option Value} {a:Act} {w:World} (hr:Rel X L s loc a w) {tag off ty:Nat} {av:AV} {v:Value} (hv:AR s.N (Dm L loc) loc w (.ptr tag off) v) (h:z4n P s ty (.ptr tag off)=some av) :
  ∃ b u,v = .pointer (some ⟨b,off,none⟩)∧(loadVar ty ⟨b,off,none⟩).run P w = .ok u w∧AR s.N (Dm L loc) loc w av u:=by
 simp only [z4n] at h
 cases hlk:s.hp.lookup tag with
 | none=>rw [hlk] at h;cases h
 | some ob =>
  rw [hlk] at h
  obtain ⟨_,u',hu',hor⟩:=hr.hp.at' tag ob hlk
  cases ob with
  | map _ _ _ _ _=>cases h
  | raw _ _=>cases h
  | lrec _ _ _=>cases h
  | amap _ _ _ _ _=>cases h
  | arow _ _=>cases h
  | afix _ _ _ _=>cases h
  | row e n rows=>cases h
  | boxP pin ty' cs =>
   obtain ⟨b,arr,rfl,hh,hsz,hcs,h1c,_⟩:=hor
   cases hv with
   | ptr _ _ _ _ _ hv =>
   obtain rfl:=hv b hu'
   obtain ⟨u,h2,h3⟩:=z0S (P:=P) (N:=s.N) (D:=Dm L loc) (loc:=loc) (b:=b) (o := 0) (cs:=cs) (fun j=>arr.getD j undef) (fun j y hy=>by
    obtain ⟨hlt,_⟩:=List.getElem?_eq_some_iff.1 hy
    refine ⟨?_,hcs j y hy,h1c j (by omega)⟩
    rw [z05 hh,Array.getD_eq_getD_getElem?,Nat.zero_add,Array.getElem?_eq_getElem (by omega)];rfl) h
   rw [Nat.zero_add] at h2
   exact ⟨b,u,rfl,by simpa [Instr.loadAt,Instr.sureAddr] using h2,h3⟩
def res1 (tmps:Array Value):ResultVar→Sem Value
 | .tmp t=>pure (tmps.getD t undef)
 | .cell t ty=>do loadVar ty (← asAddr (tmps.getD t undef))
theorem z7t {fn:Func} {rs:List ResultVar} (h:fn.results=rs.toArray) (tmps:Array Value) (P:Program) (w:World):(results fn tmps).run P w=((rs.mapM (res1 tmps)).run P w).andThen fun vs w' => .ok (match vs with | [v]=>v|vs => .tuple vs.toArray) w':=by
 have e:results fn tmps=(do let vs ← fn.results.mapM (res1 tmps);pure (if h:vs.size=1 then vs[0] else .tuple vs)):=by
  unfold results
  congr 1
 rw [e,h,List.mapM_toArray]
 simp only [bind_map_left,Sem.run_bind]
 congr 1
 funext vs w'
 match vs with
 | []=>simp
 | [v]=>simp
 | a :: b :: r=>simp
theorem z2x {P:Program} {L:Lim} {s:ASt} {loc:Nat→Option Value} {a:Act} {w:World} (hr:Rel All L s loc a w) {r:ResultVar} {x:AV} (h:zw P s r=some x) :
  ∃ v,(res1 a.tmps r).run P w = .ok v w∧AR s.N (Dm L loc) loc w x v:=by
 cases r with
 | tmp t=>cases h;exact ⟨slot a t,by simp [slot,res1],hr.fr t trivial⟩
 | cell t ty =>
  simp only [zw] at h
  split at h
  ·rename_i tag off he
   have h1:=hr.fr t trivial
   rw [he] at h1
   obtain ⟨b,u,h2,h3,h4⟩:=load_ptr hr h1 h
   refine ⟨u,?_,h4⟩
   unfold slot at h2
   simp only [res1,h2,asAddr,Sem.run_bind,Sem.run_pure,Result.andThen_ok,h3]
  ·cases h
theorem z5V {P:Program} {L:Lim} {s:ASt} {loc:Nat→Option Value} {a:Act} {w:World} (hr:Rel All L s loc a w) (fn:Func) {x:AV} (h:zI P s fn.results.toList=some x) (h3:fn.results.size≤3) : ∃ v,(results fn a.tmps).run P w = .ok v w∧AR s.N (Dm L loc) loc w x v:=by
 obtain ⟨rs,hrs⟩ : ∃ rs,fn.results=List.toArray rs:=⟨fn.results.toList,by simp⟩
 rw [hrs] at h h3
 simp only [List.size_toArray] at h3
 unfold zI at h
 rw [z7t hrs]
 rcases rs with _|⟨r1,_|⟨r2,_|⟨r3,_|⟨r4,rs⟩⟩⟩⟩
 ·simp only [zu,Option.some.injEq] at h
  subst h
  exact ⟨.tuple #[],by simp,.tup [] #[] rfl (fun j x hx=>by simp at hx)⟩
 ·simp only [zu] at h
  cases h1:zw P s r1 with
  | none=>simp [h1] at h
  | some y =>
   simp only [h1,Option.some.injEq] at h
   subst h
   obtain ⟨v,h2,h4⟩:=z2x hr h1
   exact ⟨v,by simp [h2],h4⟩
 ·simp only [zu] at h
  cases h1:zw P s r1 with
  | none=>simp [h1] at h
  | some y1 =>
   cases h2:zw P s r2 with
   | none=>simp [h1,h2] at h
   | some y2 =>
    simp only [h1,h2,Option.some.injEq] at h
    subst h
    obtain ⟨v1,h4,h5⟩:=z2x hr h1
    obtain ⟨v2,h6,h7⟩:=z2x hr h2
    refine ⟨.tuple #[v1,v2],by simp [h4,h6],.tup _ _ rfl fun j x hx=>?_⟩
    match j,hx with
    | 0,hx=>cases hx;exact h5
    | 1,hx=>cases hx;exact h7
 ·simp only [zu] at h
  cases h1:zw P s r1 with
  | none=>simp [h1] at h
  | some y1 =>
   cases h2:zw P s r2 with
   | none=>simp [h1,h2] at h
   | some y2 =>
    cases h3:zw P s r3 with
    | none=>simp [h1,h2,h3] at h
    | some y3 =>
     simp only [h1,h2,h3,Option.some.injEq] at h
     subst h
     obtain ⟨v1,h4,h5⟩:=z2x hr h1
     obtain ⟨v2,h6,h7⟩:=z2x hr h2
     obtain ⟨v3,h8,h9⟩:=z2x hr h3
     refine ⟨.tuple #[v1,v2,v3],by simp [h4,h6,h8],.tup _ _ rfl fun j x hx=>?_⟩
     match j,hx with
     | 0,hx=>cases hx;exact h5
     | 1,hx=>cases hx;exact h7
     | 2,hx=>cases hx;exact h9
 ·simp at h3
def z2R:List Nat→World→World
 | [],w=>w
 | D :: r,w=>z2R r (w.putObj D (.deferred none))
theorem z0B {D:Nat} (w:World) (ob:Obj):Kp (fun k=>k=D) w (w.putObj D ob):=⟨rfl,rfl,rfl,by simp,fun k _ hk=>World.putObj_heap_other hk⟩
theorem Kp.wide {D D' : Nat→Prop} {w w' : World} (h:Kp D w w') (hD : ∀ k,D k→D' k):Kp D' w w':=⟨h.os,h.tape,h.output,h.size,fun k hk hn=>h.block k hk fun e=>hn (hD k e)⟩
theorem HRel.shut1 {L:Nat→Prop} {N:Nat} {hp:Hp} {loc:Nat→Option Value} {w w' : World} {D:Nat} (h:HRel L N hp loc w) (hD:L D) (hk:Kp (fun k=>k=D) w w'):HRel L N hp loc w' :=
 ⟨fun t o ho=>by
  obtain ⟨h1,u,h2,h3⟩:=h.at' t o ho
  exact ⟨h1,u,h2,h3.mono (Nat.le_refl _) (hk.wide (D':=Dm L loc) fun k e => .inl (e ▸ hD)) (fun _ _ h=>h) (fun _ _ _ h=>h) (fun b hb=>hk.block b (h3.z0n hb) fun e=>h.notL t u b h2 hb (e ▸ hD))⟩,
 h.dead,h.apart,fun b hL=>Nat.lt_of_lt_of_le (h.inL b hL) hk.size,h.notL⟩
theorem Rel.shut1 {X:Nat→Prop} {L:Lim} {s:ASt} {loc:Nat→Option Value} {a:Act} {w w' : World} {D:Nat} (h:Rel X L s loc a w) (hD:L D) (hk:Kp (fun k=>k=D) w w'):Rel X L s loc a w' :=
 ⟨h.defers,h.size,fun t ht=>(h.fr t ht).mono (Nat.le_refl _) (hk.wide fun k e => .inl (e ▸ hD)) (fun _ _ h=>h) (fun _ _ _ h=>h),h.hp.shut1 hD hk⟩
theorem Rel.shut {X:Nat→Prop} {L:Lim} {s:ASt} {loc:Nat→Option Value} {a:Act} : ∀ (new:List Nat) {w:World},Rel X L s loc a w→(∀ D ∈ new,L D)→Rel X L s loc a (z2R new w)
 | [],_,h,_=>h
 | D :: r,_,h,hD=>Rel.shut r (h.shut1 (hD D (List.mem_cons.2 (.inl rfl))) (z0B _ _)) fun x hx=>hD x (List.mem_cons.2 (.inr hx))
theorem z4h : ∀ (new:List Nat) (w:World),Kp (fun k=>k ∈ new) w (z2R new w)
 | [],w=>Kp.refl _ _
 | D :: r,w=>((z0B (D:=D) w (.deferred none)).wide fun _ e=>by rw [e];exact List.mem_cons.2 (.inl rfl)).trans (z4h r _) fun x hx => .inl (List.mem_cons.2 (.inr hx))
theorem z1d {P:Program} {fn:Func} {tmps:Array Value} {R:Ending→World→Prop} : ∀ (new:List Nat) (w:World),new.Nodup→(∀ D ∈ new,w.heap[D]? = some (.deferred (some []))) →
  (∃ v,(results fn tmps).run P (z2R new w) = .ok v (z2R new w)∧R (.returned v) (z2R new w))→LeavesInM Fence.wide 0 P fn tmps R (new.map mark) .returning w
 | [],w,_,_,h=>h
 | D :: r,w,hn,hD,h=>by
  obtain ⟨h1,h2⟩:=List.nodup_cons.1 hn
  refine ⟨by simp,.inl ⟨D,w.putObj D (.deferred none),rfl,run_takeDeferred (hD D (List.mem_cons.2 (.inl rfl))),z1d r _ h2 (fun x hx=>?_) h⟩⟩
  rw [World.putObj_heap_other (k:=x) (r:=D) (fun e=>h1 (by rw [← e];exact hx))]
  exact hD x (List.mem_cons.2 (.inr hx))
def zP (P:Program) (fn:Func) (r:AV) (e:Exit) (s:ASt):Prop:=(e = .normal∨e = .ret) ∧ ∃ s',zi s s' ∧ zI P s' fn.results.toList=some r
theorem zt.of {P:Program} {f:FuncId} {fn:Func} {c:Code} {xs:List AV} {r:AV} (hf:P.funcs[f]? = some fn) (hb:fn.body=some c) (n:Nat) (hn:xs.length+(fn.ntmps-xs.length)=n) (h3:fn.results.size≤3) (hr:r.okB 0=true) (h:T Fence.wide P c (zP P fn r) (z13 xs n)):zt P f xs r:=fun L w vs hL hvs=>by
 have hst:Rel All ⟨L,[]⟩ (z13 xs n) z2A { tmps:=vs.toArray++Array.replicate (fn.ntmps-vs.toArray.size) undef,defers := [] } w:=by
  refine ⟨rfl,by simp [z13,hvs.1];omega,fun t _=>?_,⟨fun t o ht=>(by simp [z13] at ht),fun _ _=>rfl,fun t t' u u' b h1=>(by cases h1),hL,fun t u b h1=>(by cases h1)⟩⟩
  unfold ASt.get z13
  rw [z1E,if_pos (Nat.zero_le _),Nat.sub_zero]
  cases hx:xs[t]? with
  | none=>exact .zy _
  | some x =>
   have hlt:=(List.getElem?_eq_some_iff.1 hx).1
   have hv:vs[t]? = some (vs[t]'(by rw [hvs.1];exact hlt)):=List.getElem?_eq_getElem _
   have h1:=hvs.2 t x _ hx hv
   have e:slot { tmps:=vs.toArray++Array.replicate (fn.ntmps-vs.toArray.size) undef,defers := [] } t=vs[t]'(by rw [hvs.1];exact hlt):=by
    unfold slot
    rw [Array.getD_eq_getD_getElem?,Array.getElem?_append,if_pos (by simp [hvs.1,hlt])]
    simp [hv]
   rw [e]
   exact h1.mono (Nat.le_refl _) (Kp.refl _ _) (fun k _ hk=>hk.elim id (fun ⟨_,_,h,_⟩=>by cases h)) (fun _ _ h=>absurd h (Nat.not_lt_zero _))
 refine callsIn_wide.1 (callsIn_of_wp_marks (n := 0) hf hb trivial (wpIn_mono (h ⟨L,[]⟩ z2A _ w hst) fun e a' w' ⟨s',loc',⟨he,s2,hw,hares⟩,⟨L1,hrel,hlx⟩,hx⟩=>?_))
 obtain ⟨new,e1,hnd,hnew⟩:=hlx.ds
 rw [List.append_nil] at e1
 obtain ⟨l2,hrel2,hx2⟩:=hw L1 loc' a' w' hrel
 obtain ⟨v,hrun,hav⟩:=z5V (hrel2.shut new fun D hD=>(hnew D hD).2.1) fn hares h3
 have hbel:Blw w.heap.size w (z2R new w'):=by
  have k1:Kp (fun k=>Dm (fun _=>False) z2A k∨k ∈ new) w (z2R new w'):=(hx.kp.wide fun k h => .inl h).trans ((z4h new w').wide fun k h => .inr h) fun x hx' => .inl hx'
  exact ⟨⟨k1.os,k1.tape,k1.output,k1.size,fun k hk=>k1.block k hk fun hd=>hd.elim (fun hd=>hd.elim id fun ⟨_,_,h,_⟩=>by cases h) (fun hd=>by have:=(hnew k hd).1;omega)⟩⟩
 have hleave:LeavesInM Fence.wide 0 P fn a'.tmps (fun e w' => ∃ v',e = .returned v' ∧ Blw w.heap.size w w' ∧ AR 0 L z2A w' r v') a'.defers .returning w':=by
  rw [hrel.defers,e1]
  exact z1d new w' hnd (fun D hD=>(hnew D hD).2.2) ⟨v,hrun,v,rfl,hbel,hav.bare hr (fun b hb => .inl (hlx.sub b hb))⟩
 rcases he with rfl|rfl
 ·exact hleave
 ·exact hleave
def FinF (P:Program) (fn:Func) (n:Nat) (rows:List (List PV)) (e:Exit) (s:ASt):Prop:=(e = .normal∨e = .ret) ∧ ∃ s',zi s s' ∧ ∃ t e0,zI P s' fn.results.toList=some (.own t)∧s'.hp.lookup t=some (.row e0 n rows) ∧ ∀ r ∈ rows,∀ x ∈ r,∃ v,x = .val v
theorem FinF.ret {P:Program} {fn:Func} {n:Nat} {rows:List (List PV)} {s s' : ASt} {e:Exit} (t e0:Nat) (he:e = .normal∨e = .ret) {rs:Array ResultVar} (hrs:fn.results=rs) (hw:zi s s') (h:zI P s' rs.toList=some (.own t)) (hlk:s'.hp.lookup t=some (.row e0 n rows)) (hsc : ∀ r ∈ rows,∀ x ∈ r,∃ v,x = .val v):FinF P fn n rows e s:=⟨he,s',hw,t,e0,by rw [hrs];exact h,hlk,hsc⟩
theorem z6R.of {P:Program} {f:FuncId} {fn:Func} {c:Code} {xs:List AV} {n0:Nat} {rows:List (List PV)} (hf:P.funcs[f]? = some fn) (hb:fn.body=some c) (n:Nat) (hn:xs.length+(fn.ntmps-xs.length)=n) (h3:fn.results.size≤3) (h:T Fence.wide P c (FinF P fn n0 rows) (z13 xs n)):z6R P f xs (.seq n0 rows):=fun L w vs hL hvs=>by
 have hst:Rel All ⟨L,[]⟩ (z13 xs n) z2A { tmps:=vs.toArray++Array.replicate (fn.ntmps-vs.toArray.size) undef,defers := [] } w:=by
  refine ⟨rfl,by simp [z13,hvs.1];omega,fun t _=>?_,⟨fun t o ht=>(by simp [z13] at ht),fun _ _=>rfl,fun t t' u u' b h1=>(by cases h1),hL,fun t u b h1=>(by cases h1)⟩⟩
  unfold ASt.get z13
  rw [z1E,if_pos (Nat.zero_le _),Nat.sub_zero]
  cases hx:xs[t]? with
  | none=>exact .zy _
  | some x =>
   have hlt:=(List.getElem?_eq_some_iff.1 hx).1
   have hv:vs[t]? = some (vs[t]'(by rw [hvs.1];exact hlt)):=List.getElem?_eq_getElem _
   have h1:=hvs.2 t x _ hx hv
   have e:slot { tmps:=vs.toArray++Array.replicate (fn.ntmps-vs.toArray.size) undef,defers := [] } t=vs[t]'(by rw [hvs.1];exact hlt):=by
    unfold slot
    rw [Array.getD_eq_getD_getElem?,Array.getElem?_append,if_pos (by simp [hvs.1,hlt])]
    simp [hv]
   rw [e]
   exact h1.mono (Nat.le_refl _) (Kp.refl _ _) (fun k _ hk=>hk.elim id (fun ⟨_,_,h,_⟩=>by cases h)) (fun _ _ h=>absurd h (Nat.not_lt_zero _))
 refine callsIn_wide.1 (callsIn_of_wp_marks (n := 0) hf hb trivial (wpIn_mono (h ⟨L,[]⟩ z2A _ w hst) fun e a' w' ⟨s',loc',⟨he,s2,hw,t,e0,hares,hlk,hsc⟩,⟨L1,hrel,hlx⟩,hx⟩=>?_))
 obtain ⟨new,e1,hnd,hnew⟩:=hlx.ds
 rw [List.append_nil] at e1
 obtain ⟨l2,hrel2,hx2⟩:=hw L1 loc' a' w' hrel
 obtain ⟨v,hrun,hav⟩:=z5V (hrel2.shut new fun D hD=>(hnew D hD).2.1) fn hares h3
 have hbel:Blw w.heap.size w (z2R new w'):=by
  have k1:Kp (fun k=>Dm (fun _=>False) z2A k∨k ∈ new) w (z2R new w'):=(hx.kp.wide fun k h => .inl h).trans ((z4h new w').wide fun k h => .inr h) fun x hx' => .inl hx'
  exact ⟨⟨k1.os,k1.tape,k1.output,k1.size,fun k hk=>k1.block k hk fun hd=>hd.elim (fun hd=>hd.elim id fun ⟨_,_,h,_⟩=>by cases h) (fun hd=>by have:=(hnew k hd).1;omega)⟩⟩
 have hrel3:=hrel2.shut new fun D hD=>(hnew D hD).2.1
 obtain ⟨_,u,hu,hor⟩:=hrel3.hp.at' t _ hlk
 obtain rfl:v=u:=by cases hav with|own _ _ _ _ h=>exact h u hu
 have hfr : ∀ b,ql v=some b → ¬ b<w.heap.size:=fun b hb hlt=>by
  rcases hx2.fresh b (.inr ⟨t,v,hu,hb⟩) with h1|h1
  ·rcases hx.fresh b h1 with h2|h2
   ·exact h2.elim id fun ⟨_,_,h,_⟩=>by cases h
   ·omega
  ·have:=hx.kp.size;omega
 have hpr:PR (fun b=>b<w.heap.size) (z2R new w') (.seq n0 rows) v:=by
  obtain ⟨flat,hown,hn0,hf0,h10⟩:=hor
  have hor' : OR s2.N (fun b=>b<w.heap.size) l2 (z2R new w') v (.row e0 n0 rows):=⟨flat,hown,hn0,fun k r j x hk hx'=>by
   obtain ⟨z,g1,g2⟩:=hf0 k r j x hk hx'
   obtain ⟨y,rfl⟩:=hsc r (List.mem_of_getElem? hk) x (List.mem_of_getElem? hx')
   exact ⟨z,g1,by cases g2 with|val _ h=>exact .val _ h⟩,h10⟩
  exact hor'.seq (fun b hb=>hb) hfr
 have hleave:LeavesInM Fence.wide 0 P fn a'.tmps (fun e w' => ∃ v',e = .returned v' ∧ Blw w.heap.size w w' ∧ PR (fun b=>b<w.heap.size) w' (.seq n0 rows) v') a'.defers .returning w':=by
  rw [hrel.defers,e1]
  exact z1d new w' hnd (fun D hD=>(hnew D hD).2.2) ⟨v,hrun,v,rfl,hbel,hpr⟩
 rcases he with rfl|rfl
 ·exact hleave
 ·exact hleave
set_option linter.defProp false in
def bz := And.intro @z13.eq_1 (And.intro @frOf.eq_1 (And.intro @frOf.eq_2 (And.intro @List.map_cons.{0, 0} @List.map_nil.{0, 0})))
def Cs (N:Nat) (D:Nat→Prop) (loc:Nat→Option Value) (w:World) (cs:List AV) (vs:Array Value):Prop:=vs.size=cs.length∧(∀ j x,cs[j]? = some x→AR N D loc w x (vs.getD j undef)) ∧ ∀ j,j<vs.size→(vs.getD j undef).oneCell' = true
def z4L (cells:Array Value) (off:Nat) (vs:Array Value):Array Value:=vs.zipIdx.foldl (fun cs (c,j)=>cs.setIfInBounds (off+j) c) cells
theorem z4M (off:Nat) : ∀ (vs:List Value) (k:Nat) (cells:Array Value),off+k+vs.length≤cells.size →
  ((vs.zipIdx k).foldl (fun cs (p:Value × Nat)=>cs.setIfInBounds (off+p.2) p.1) cells).toList=qM cells.toList (off+k) vs
 | [],k,cells,_=>by simp [qM]
 | v :: r,k,cells,h=>by
  simp only [List.length_cons] at h
  rw [List.zipIdx_cons,List.foldl_cons,z4M off r (k+1) _ (by simp;omega)]
  apply List.ext_getElem?
  intro j
  rw [qK (by simp;omega),qK (by simp;omega)]
  simp only [List.length_cons,Array.getElem?_toList,Array.getElem?_setIfInBounds]
  by_cases e1:off+(k+1)≤j∧j<off+(k+1)+r.length
  ·rw [if_pos e1,if_pos (by omega)]
   rw [show j-(off+k)=(j-(off+(k+1)))+1 by omega];rfl
  ·rw [if_neg e1]
   by_cases e2:off+k=j
   ·subst e2
    rw [if_pos rfl,if_pos (by omega),if_pos (by omega)]
    simp
   ·rw [if_neg e2,if_neg (by omega)]
theorem z3P {cells vs:Array Value} {off:Nat} (h:off+vs.size≤cells.size):(z4L cells off vs).toList=qM cells.toList off vs.toList:=by
 unfold z4L
 rw [← Array.foldl_toList,Array.toList_zipIdx]
 exact z4M off vs.toList 0 cells (by simpa using h)
theorem Cs.splice {N:Nat} {D:Nat→Prop} {loc:Nat→Option Value} {w:World} {cs xs:List AV} {us vs:Array Value} {off:Nat} (h:Cs N D loc w cs us) (k:Cs N D loc w xs vs) (hl:off+xs.length≤cs.length):Cs N D loc w (qM cs off xs) (z4L us off vs):=by
 have hle:off+vs.size≤us.size:=by rw [k.1,h.1];exact hl
 have hlen:(z4L us off vs).size=us.size:=by
  have:=congrArg List.length (z3P hle)
  rw [qY (by simpa using hle)] at this
  simpa using this
 have hget : ∀ j,(z4L us off vs).getD j undef=if off≤j∧j<off+xs.length then vs.getD (j-off) undef else us.getD j undef:=fun j=>by
  rw [Array.getD_eq_getD_getElem?,← Array.getElem?_toList,z3P hle,qK (by simpa using hle)]
  simp only [Array.length_toList,k.1]
  split <;> rw [Array.getElem?_toList,Array.getD_eq_getD_getElem?]
 refine ⟨by rw [hlen,h.1,qY hl],fun j x hx=>?_,fun j hj=>?_⟩
 ·rw [hget]
  rw [qK hl] at hx
  split
  ·rename_i hc;rw [if_pos hc] at hx;exact k.2.1 _ x hx
  ·rename_i hc;rw [if_neg hc] at hx;exact h.2.1 _ x hx
 ·rw [hget]
  split
  ·exact k.2.2 _ (by rw [k.1];omega)
  ·exact h.2.2 _ (by omega)
def z2I (place:Nat→Option (Nat × Nat)):List AV→List (Nat × AV)→Option (List AV)
 | cs,[]=>some cs
 | cs,(i,x) :: r=>match place i,z0e x with
  | some (off,size),some xs=>if xs.length=size∧off+xs.length≤cs.length then z2I place (qM cs off xs) r else none
  | _,_=>none
theorem z3w {N:Nat} {D:Nat→Prop} {loc:Nat→Option Value} {w:World} {place:Nat→Option (Nat × Nat)} : ∀ {ps:List (Nat × AV)} {qs:List (Nat × Value)} {cs cs' : List AV} {us:Array Value},qs.length=ps.length→(∀ (j:Nat) i x i' v,ps[j]? = some (i,x)→qs[j]? = some (i',v)→i=i' ∧ AR N D loc w x v) →
  Cs N D loc w cs us→z2I place cs ps=some cs' → ∃ us',Instr.fill place us qs=some us' ∧ Cs N D loc w cs' us'
 | [],[],cs,cs',us,_,_,hc,h=>by cases h;exact ⟨us,rfl,hc⟩
 | (i,x) :: ps,(i',v) :: qs,cs,cs',us,hl,hpq,hc,h=>by
  obtain ⟨rfl,hx⟩:=hpq 0 i x i' v rfl rfl
  simp only [z2I] at h
  split at h
  ·rename_i off size xs hp hxs
   split at h
   ·rename_i hcond
    have hk:Cs N D loc w xs v.cells:=z1S hx hxs
    obtain ⟨us',h1,h2⟩:=z3w (ps:=ps) (qs:=qs) (by simpa using hl) (fun j a b c d e f=>hpq (j+1) a b c d e f) (hc.splice hk hcond.2) h
    refine ⟨us',?_,h2⟩
    rw [Instr.fill,hp]
    simp only
    rw [if_neg (by rw [hk.1,hc.1];simp [hcond.1];have:=hcond.2;omega)]
    exact h1
   ·cases h
  ·cases h
def qJ (P:Program) (t:TypeId):Option (List Value × List (Nat × Nat)):=match P.underlying t,zN P t with
 | some (.struct fs),some zs=>(fs.toList.mapM fun f=>(qy P f.type).map fun n=>(f.offset,n)).map fun pl=>(zs,pl)
 | _,_=>none
def z6a (P:Program) (t:TypeId):Option (List Value × Nat × Nat):=match P.underlying t,zN P t with
 | some (.array n e),some zs=>(qy P e).map fun k=>(zs,k,n)
 | _,_=>none
theorem z0j {P:Program} {t:TypeId} {zs:List Value} (h:zN P t=some zs) : ∃ i z,P.info? t=some i∧i.zero=some z∧z.cells.toList=zs ∧ ∀ v ∈ zs,v.oneCell' = true:=by
 unfold zN at h
 split at h
 ·rename_i z hz
  split at h
  ·rename_i hone
   cases h
   obtain ⟨i,hi,hiz⟩:=Option.bind_eq_some_iff.1 hz
   exact ⟨i,z,hi,hiz,rfl,fun v hv=>Array.all_eq_true_iff_forall_mem.1 hone v (by simpa using hv)⟩
  ·cases h
 ·cases h
theorem Cs.zero (N:Nat) (D:Nat→Prop) (loc:Nat→Option Value) (w:World) {vs:Array Value} (h : ∀ v ∈ vs.toList,v.oneCell' = true):Cs N D loc w (vs.toList.map fun v => .p (.val v)) vs:=by
 refine ⟨by simp,fun j x hx=>?_,fun j hj=>?_⟩
 ·simp only [List.getElem?_map,Option.map_eq_some_iff] at hx
  obtain ⟨v,hv,rfl⟩:=hx
  have hv' : vs[j]? = some v:=by simpa using hv
  rw [Array.getD_eq_getD_getElem?,hv']
  exact .qC v (h v (List.mem_of_getElem? hv))
 ·rw [Array.getD_eq_getD_getElem?,Array.getElem?_eq_getElem hj]
  exact h _ (by simp)
section
variable {P:Program} {ops:Array Oper} {o:Oper} {s:ASt}
def z7A (P:Program) (s:ASt) (t:TypeId) (parts:List (Nat × Operand)):Option AV:=match qJ P t with
 | some (zs,pl)=>(z2I (fun i=>pl[i]?) (zs.map fun v => .p (.val v)) (parts.map fun p=>(p.1,s.ev p.2))).map .agg
 | none=>match z6a P t with
  | some (zs,n,_)=>(z2I (fun i=>some (i*n,n)) (zs.map fun v => .p (.val v)) (parts.map fun p=>(p.1,s.ev p.2))).map .agg
  | none=>none
def fldG (f:Field):Sem (Nat × Nat):=do pure (f.offset,← sizeOf f.type)
theorem z5e {P:Program} {w:World} : ∀ (fs:List Field) (pl:List (Nat × Nat)),(fs.mapM fun f=>(qy P f.type).map fun n=>(f.offset,n))=some pl→(fs.mapM fldG).run P w = .ok pl w
 | [],pl,h=>by
  simp only [List.mapM_nil,Option.pure_def,Option.some.injEq] at h
  subst h;simp
 | f :: fs,pl,h=>by
  simp only [List.mapM_cons,Option.bind_eq_bind,Option.bind_eq_some_iff,Option.pure_def,Option.some.injEq] at h
  obtain ⟨q,h1,pl',h2,rfl⟩:=h
  obtain ⟨n,hn,rfl⟩:=Option.map_eq_some_iff.1 h1
  obtain ⟨i,hi,hin⟩:=Option.map_eq_some_iff.1 hn
  have hg:(fldG f).run P w = .ok (f.offset,n) w:=by simp [fldG,sizeOf,typeInfo,hi,hin]
  simp only [List.mapM_cons,Sem.run_bind,hg,Result.andThen_ok,z5e fs pl' h2,Sem.run_pure]
theorem z3U {P:Program} {t:TypeId} {fs:Array Field} {i:TypeInfo} {z:Value} {pl:List (Nat × Nat)} (hu:P.underlying t=some (.struct fs)) (hi:P.info? t=some i) (hz:i.zero=some z) (hpl:(fs.toList.mapM fun f=>(qy P f.type).map fun n=>(f.offset,n))=some pl)
  {parts:Array (Nat × Value)} {cells:Array Value} (hf:Instr.fill (fun k=>pl[k]?) z.cells parts.toList=some cells) (w:World):(Instr.build t parts).run P w = .ok (.agg cells) w:=by
 have hm:(fs.mapM fldG).run P w = .ok pl.toArray w:=by
  obtain ⟨l,rfl⟩ : ∃ l,fs=List.toArray l:=⟨fs.toList,by simp⟩
  have:=z5e (P:=P) (w:=w) l pl (by simpa using hpl)
  rw [List.mapM_toArray]
  change (l.mapM fldG >>= fun a=>pure a.toArray).run P w=_
  simp only [Sem.run_bind,this,Result.andThen_ok,Sem.run_pure]
 have hf' : Instr.fill (fun x=>pl.toArray[x]?) z.cells parts.toList=some cells:=by simpa using hf
 unfold fldG at hm
 unfold Instr.build
 simp only [Sem.run_bind,zeroValue,typeInfo,run_program,Result.andThen_ok,hi,Sem.run_pure,hz,run_underlying hu]
 rw [hm]
 simp only [Result.andThen_ok,hf',Sem.run_pure]
theorem z4I {P:Program} {t e:TypeId} {n k:Nat} {i:TypeInfo} {z:Value} (hu:P.underlying t=some (.array n e)) (hi:P.info? t=some i) (hz:i.zero=some z) (he:qy P e=some k)
  {parts:Array (Nat × Value)} {cells:Array Value} (hf:Instr.fill (fun i=>some (i*k,k)) z.cells parts.toList=some cells) (w:World):(Instr.build t parts).run P w = .ok (.agg cells) w:=by
 obtain ⟨j,hj,hjk⟩:=Option.map_eq_some_iff.1 he
 unfold Instr.build
 simp only [Sem.run_bind,zeroValue,typeInfo,run_program,Result.andThen_ok,hi,Sem.run_pure,hz,run_underlying hu,sizeOf,hj,hjk,hf]
theorem op_build (t:TypeId) (parts:Array (Nat × Operand)) (av:AV) (h:o.op = .build t parts) (hl:z7A P s t parts.toList=some av):qB P ops o s av := .pure fun L loc a w hr=>by
 have hev : ∀ (j i:Nat) (x:AV) (i' : Nat) (v:Value),(parts.toList.map fun p=>(p.1,s.ev p.2))[j]? = some (i,x)→(parts.map fun (i,x)=>(i,a.eval x)).toList[j]? = some (i',v)→i=i' ∧ AR s.N (Dm L loc) loc w x v:=fun j i x i' v h1 h2=>by
  simp only [Array.toList_map,List.getElem?_map,Option.map_eq_some_iff] at h1 h2
  obtain ⟨p,hp,e1⟩:=h1
  obtain ⟨p',hp',e2⟩:=h2
  rw [hp] at hp'
  cases hp'
  cases e1
  cases e2
  refine ⟨rfl,hr.ev p.2 (zJ ?_)⟩
  simp only [h,Op.operands]
  exact List.mem_map.2 ⟨p,List.mem_of_getElem? hp,rfl⟩
 have hlen:(parts.map fun (i,x)=>(i,a.eval x)).toList.length=(parts.toList.map fun p=>(p.1,s.ev p.2)).length:=by simp
 have he : ∀ v,(Instr.build t (parts.map fun (i,x)=>(i,a.eval x))).run P w = .ok v w→(execOp a.eval o).run P w = .ok (.value v) w:=fun v hv=>by simp only [execOp,h,Sem.run_bind,hv,Result.andThen_ok,Sem.run_pure]
 unfold z7A at hl
 split at hl
 ·rename_i zs pl hst
  obtain ⟨cs',hf,rfl⟩:=Option.map_eq_some_iff.1 hl
  unfold qJ at hst
  split at hst
  ·rename_i fs zs' hu hz
   obtain ⟨pl',hpl,e⟩:=Option.map_eq_some_iff.1 hst
   cases e
   obtain ⟨i,z,hi,hiz,rfl,hone⟩:=z0j hz
   obtain ⟨us',h1,h2⟩:=z3w hlen hev (Cs.zero s.N (Dm L loc) loc w (vs:=z.cells) hone) hf
   exact ⟨.agg us',he _ (z3U hu hi hiz hpl h1 w),.agg cs' us' h2.1 h2.2.1 h2.2.2⟩
  ·cases hst
 ·split at hl
  ·rename_i zs n m hst
   obtain ⟨cs',hf,rfl⟩:=Option.map_eq_some_iff.1 hl
   unfold z6a at hst
   split at hst
   ·rename_i k e' zs' hu hz
    obtain ⟨k',hk,e⟩:=Option.map_eq_some_iff.1 hst
    cases e
    obtain ⟨i,z,hi,hiz,rfl,hone⟩:=z0j hz
    obtain ⟨us',h1,h2⟩:=z3w hlen hev (Cs.zero s.N (Dm L loc) loc w (vs:=z.cells) hone) hf
    exact ⟨.agg us',he _ (z4I hu hi hiz hk h1 w),.agg cs' us' h2.1 h2.2.1 h2.2.2⟩
   ·cases hst
  ·cases hl
def z6F:List AV→Option (List PV)
 | []=>some []
 | .p x :: r=>(z6F r).map (x :: ·)
 | _=>none
theorem z2v : ∀ {cs:List AV} {xs:List PV},z6F cs=some xs→cs=xs.map .p
 | [],xs,h=>by cases h;rfl
 | c :: r,xs,h=>by
  cases c <;> try cases h
  rename_i x
  obtain ⟨ys,hy,rfl⟩:=Option.map_eq_some_iff.1 h
  rw [z2v hy];rfl
def chunks {α:Type} (n:Nat):Nat→List α→List (List α)
 | 0,_ => []
 | k+1,l=>l.take n :: chunks n k (l.drop n)
theorem z00 {α:Type} (n:Nat) : ∀ (k:Nat) (l:List α),(chunks n k l).length=k
 | 0,_=>rfl
 | k+1,l=>by simp [chunks,z00 n k]
theorem z1n {α:Type} (n:Nat) : ∀ (k:Nat) (l:List α) (i:Nat) (r:List α),(chunks n k l)[i]? = some r→r=(l.drop (i*n)).take n
 | 0,l,i,r,h=>by simp [chunks] at h
 | k+1,l,0,r,h=>by simp [chunks] at h;simp [h]
 | k+1,l,i+1,r,h=>by
  simp only [chunks,List.getElem?_cons_succ] at h
  rw [z1n n k _ i r h,List.drop_drop]
  congr 2
  rw [Nat.add_mul];omega
def z1y (P:Program) (s:ASt) (t:TypeId) (len:Nat) (parts:List (Nat × Operand)):Option AV:=match P.underlying t with
 | some (.slice e)=>match zN P e,qy P e with
  | some zs,some n=>if zs.length=n ∧ 0<n∧len*n≤16777216∧len≤maxLen then match z2I (fun i=>some (i*n,n)) ((List.range (len*n)).map fun j => .p (.val (zs.getD (j % n) undef))) (parts.map fun p=>(p.1,s.ev p.2)) with
   | some cs=>(z6F cs).map fun xs => .p (.seq n (chunks n len xs))
   | none=>none
   else none
  | _,_=>none
 | _=>none
end
end Go.Proofs.YtbkkginjfnjffaaGreatDoor
