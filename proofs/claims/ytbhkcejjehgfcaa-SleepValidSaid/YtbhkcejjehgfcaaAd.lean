/- More operations that yield a value and turn nothing. -/
import Derived.Test.YtbhkcejjehgfcaaAc
namespace Go.Proofs.Ytbhkcejjehgfcaa
open Go.RowKit Go.Sort

section
variable {P : Program} {ops : Array Oper} {o : Oper} {s : ASt}

theorem AR.of_val {N : Nat} {D : Nat → Prop} {loc : Nat → Option Value} {w : World} (v : Value) (h : v.oneCell' = true) : AR N D loc w (.p (.val v)) v := .p _ _ (.val v h)
abbrev AV.int (n : Int) : AV := .p (.val (.int .i64 n))
abbrev AV.bool (b : Bool) : AV := .p (.val (.bool b))

/-! ### Numbers and comparisons -/
def abinI (op : BinOp) (k : IntKind) (a b : Int) : Option Value := match op with
  | .add => some (.int k (k.wrap (a + b)))
  | .sub => some (.int k (k.wrap (a - b)))
  | .mul => some (.int k (k.wrap (a * b)))
  | .quo => if b = 0 then none else some (.int k (k.wrap (a.tdiv b)))
  | .rem => if b = 0 then none else some (.int k (a.tmod b))
  | .eql => some (.bool (a == b))
  | .neq => some (.bool (a != b))
  | .lss => some (.bool (decide (a < b)))
  | .leq => some (.bool (decide (a ≤ b)))
  | .gtr => some (.bool (decide (b < a)))
  | .geq => some (.bool (decide (b ≤ a)))
  | _ => none
/-- What == compares: the cell's place, and 0: a number, 1: a bool, 2: a string. -/
def scTy (P : Program) (t : TypeId) : Option Nat := match P.underlying t with
  | some (.int _) => some 0
  | some .bool => some 1
  | some .string => some 2
  | _ => none
def scEq (c : Nat) (u v : Value) : Option Bool := match c, u, v with
  | 0, .int k a, .int k' b => if k = k' then some (a == b) else none
  | 1, .bool a, .bool b => some (a == b)
  | 2, .string a, .string b => some (a.toList == b.toList)
  | _, _, _ => none
def eqTy (P : Program) (t : TypeId) : Option (List (Nat × Nat)) := match P.underlying t with
  | some (.struct fs) => if P.stoodInHeld t = false ∧ P.eqGuardType P.depth t = false then fs.toList.mapM fun f => if f.name = "_" then none else (scTy P f.type).map fun c => (f.offset, c) else none
  | _ => none
def aeqF (xs ys : List AV) : List (Nat × Nat) → Option Bool
  | [] => some true
  | (off, c) :: r => match xs[off]?, ys[off]? with
    | some (.p (.val u)), some (.p (.val v)) => match scEq c u v, aeqF xs ys r with
      | some b, some b' => some (b && b')
      | _, _ => none
    | _, _ => none
def abin (P : Program) (op : BinOp) (t : TypeId) : AV → AV → Option AV
  | .p (.val (.int k a)), .p (.val (.int k' b)) => if k = k' then (abinI op k a b).map fun v => .p (.val v) else none
  | .p (.val (.bool a)), .p (.val (.bool b)) => match op, P.underlying t with
    | .eql, some .bool => some (.bool (a == b))
    | .neq, some .bool => some (.bool (!(a == b)))
    | _, _ => none
  | .p (.val (.string a)), .p (.val (.string b)) => match op with
    | .eql => some (.bool (a.toList == b.toList))
    | .neq => some (.bool (!(a.toList == b.toList)))
    | _ => none
  | .agg xs, .agg ys => match op, eqTy P t with
    | .eql, some l => (aeqF xs ys l).map fun b => .bool b
    | .neq, some l => (aeqF xs ys l).map fun b => .bool (!b)
    | _, _ => none
  | _, _ => none
theorem run_abinI {op : BinOp} {k : IntKind} {a b : Int} {v : Value} (h : abinI op k a b = some v) (t : TypeId) (w : World) : (binOp op t (.int k a) (.int k b)).run P w = .ok v w ∧ v.oneCell' = true := by
  unfold abinI at h
  split at h
  all_goals first
    | (cases h; done)
    | (cases h; exact ⟨by simp [binOp, Op.intArith, Op.intCmp], rfl⟩)
    | (split at h <;> first | (cases h; done) | (cases h; rename_i hb; exact ⟨by simp [binOp, Op.intDiv, hb], rfl⟩))
theorem run_eqGuard_int (op : BinOp) (t : TypeId) (x y : Operand) (k k' : IntKind) (a b : Int) (w : World) : (eqGuard op t x y (.int k a) (.int k' b)).run P w = .ok () w := by
  cases op <;> simp [eqGuard]
theorem run_eqGuard_bool (op : BinOp) (t : TypeId) (x y : Operand) (a b : Bool) (w : World) : (eqGuard op t x y (.bool a) (.bool b)).run P w = .ok () w := by
  cases op <;> simp [eqGuard]
theorem run_eqGuard_str (op : BinOp) (t : TypeId) (x y : Operand) (a b : ByteArray) (w : World) : (eqGuard op t x y (.string a) (.string b)).run P w = .ok () w := by
  cases op <;> simp [eqGuard]
theorem run_part {w : World} {t : TypeId} {c : Nat} (h : scTy P t = some c) (cs : Array Value) (off : Nat) (v : Value) (hv : cs[off]? = some v) : (part t cs off).run P w = .ok v w := by
  unfold scTy at h
  have : ∃ d, P.underlying t = some d ∧ ((∃ k, d = .int k) ∨ d = .bool ∨ d = .string) := by
    split at h <;> first | exact ⟨_, ‹_›, .inl ⟨_, rfl⟩⟩ | exact ⟨_, ‹_›, .inr (.inl rfl)⟩ | exact ⟨_, ‹_›, .inr (.inr rfl)⟩ | cases h
  obtain ⟨d, hd, hk⟩ := this
  have hag : (isAgg t).run P w = .ok false w := by
    unfold isAgg
    rw [Sem.run_bind, run_underlying hd w]
    rcases hk with ⟨k, rfl⟩ | rfl | rfl <;> simp
  simp [part, Sem.run_bind, hag, hv]
theorem run_scEq {w : World} {t : TypeId} {c : Nat} (h : scTy P t = some c) {u v : Value} {b : Bool} (hb : scEq c u v = some b) (d : Nat) : (Op.equalIn (d + 1) t u v).run P w = .ok b w := by
  unfold scTy at h
  split at h <;> cases h <;> rename_i hu <;> unfold scEq at hb <;> split at hb <;> simp_all
  · obtain ⟨rfl, rfl⟩ := hb; exact run_equalIn_int w d t _ _ _ _ hu
  · subst hb; exact run_equalIn_bool w d t _ _ hu
  · subst hb; exact run_equalIn_string w d t _ _ hu
theorem run_eqF {N : Nat} {D : Nat → Prop} {loc : Nat → Option Value} {w : World} (d : Nat) {xs ys : List AV} {us vs : Array Value} (hx : ∀ j x, xs[j]? = some x → AR N D loc w x (us.getD j undef)) (hy : ∀ j x, ys[j]? = some x → AR N D loc w x (vs.getD j undef)) (hxl : us.size = xs.length) (hyl : vs.size = ys.length) :
    ∀ (fs : List Field) (l : List (Nat × Nat)) (b : Bool), (fs.mapM fun f => if f.name = "_" then none else (scTy P f.type).map fun c => (f.offset, c)) = some l → aeqF xs ys l = some b → (Op.eqFields (d + 1) us vs fs).run P w = .ok b w := by
  intro fs
  induction fs with
  | nil =>
    intro l b h hb
    simp only [List.mapM_nil, Option.pure_def, Option.some.injEq] at h
    subst h
    simp only [aeqF, Option.some.injEq] at hb
    subst hb
    simp [Op.eqFields]
  | cons f fs ih =>
    intro l b h hb
    simp only [List.mapM_cons, Option.bind_eq_bind, Option.bind_eq_some_iff, Option.pure_def, Option.some.injEq] at h
    obtain ⟨⟨off, c⟩, h1, l', h2, rfl⟩ := h
    split at h1
    · cases h1
    · rename_i hn
      obtain ⟨c', hc, h3⟩ := Option.map_eq_some_iff.1 h1
      cases h3
      simp only [aeqF] at hb
      split at hb
      · rename_i u v hu hv
        split at hb
        · rename_i b1 b2 hs1 hs2
          cases hb
          have e1 := hx _ _ hu
          have e2 := hy _ _ hv
          have hul := (List.getElem?_eq_some_iff.1 hu).1
          have hvl := (List.getElem?_eq_some_iff.1 hv).1
          have g1 : us[f.offset]? = some u := by rw [← e1.val, Array.getD_eq_getD_getElem?, Array.getElem?_eq_getElem (by omega)]; rfl
          have g2 : vs[f.offset]? = some v := by rw [← e2.val, Array.getD_eq_getD_getElem?, Array.getElem?_eq_getElem (by omega)]; rfl
          have hih := ih l' b2 h2 hs2
          cases b1 with
          | false => simp [Op.eqFields, hn, Sem.run_bind, run_part hc us _ u g1, run_part hc vs _ v g2, run_scEq hc hs1 d]
          | true => simp [Op.eqFields, hn, Sem.run_bind, run_part hc us _ u g1, run_part hc vs _ v g2, run_scEq hc hs1 d, hih]
        · cases hb
      · cases hb
theorem op_bin (op : BinOp) (t t' : TypeId) (x y : Operand) (av : AV) (h : o.op = .binOp op t x y t') (hl : abin P op t (s.ev x) (s.ev y) = some av) : OpVal P ops o s av := .pure fun L loc a w hr => by
  have h1 := hr.ev x (looks_mem (by simp [h, Op.operands]))
  have h2 := hr.ev y (looks_mem (by simp [h, Op.operands]))
  have he : ∀ v, (eqGuard op t x y (a.eval x) (a.eval y)).run P w = .ok () w → (binOp op t (a.eval x) (a.eval y)).run P w = .ok v w → (execOp a.eval o).run P w = .ok (.value v) w := fun v hg hv => by simp [execOp, h, hg, hv]
  generalize a.eval x = u at *
  generalize a.eval y = v at *
  generalize s.ev x = ax at *
  generalize s.ev y = ay at *
  unfold abin at hl
  split at hl
  · split at hl
    · rename_i hk
      subst hk
      obtain ⟨r, hr1, rfl⟩ := Option.map_eq_some_iff.1 hl
      obtain rfl := h1.val
      obtain rfl := h2.val
      have := run_abinI (P := P) hr1 t w
      exact ⟨r, he _ (run_eqGuard_int _ _ _ _ _ _ _ _ w) this.1, .of_val _ this.2⟩
    · cases hl
  · obtain rfl := h1.val
    obtain rfl := h2.val
    split at hl
    · rename_i hu
      cases hl
      exact ⟨_, he _ (run_eqGuard_bool _ _ _ _ _ _ w) (by simp [binOp, run_equal_bool w _ _ _ hu]), .of_val _ rfl⟩
    · rename_i hu
      cases hl
      exact ⟨_, he _ (run_eqGuard_bool _ _ _ _ _ _ w) (by simp [binOp, run_equal_bool w _ _ _ hu]), .of_val _ rfl⟩
    · cases hl
  · obtain rfl := h1.val
    obtain rfl := h2.val
    split at hl
    · cases hl; exact ⟨_, he _ (run_eqGuard_str _ _ _ _ _ _ w) (by simp [binOp, Op.stringOp]), .of_val _ rfl⟩
    · cases hl; exact ⟨_, he _ (run_eqGuard_str _ _ _ _ _ _ w) (by simp [binOp, Op.stringOp]), .of_val _ rfl⟩
    · cases hl
  · rename_i xs ys
    cases h1 with
    | agg _ us hul hua _ =>
    cases h2 with
    | agg _ vs hvl hva _ =>
    have key : ∀ l b, eqTy P t = some l → aeqF xs ys l = some b → (Op.equalIn 10000 t (.agg us) (.agg vs)).run P w = .ok b w ∧ P.eqGuardType P.depth t = false := by
      intro l b hl hb
      unfold eqTy at hl
      split at hl
      · rename_i fs hu
        split at hl
        · rename_i hc
          refine ⟨?_, hc.2⟩
          have hfo : P.fieldsOf t = fs := by simp [Program.fieldsOf, hu]
          rw [run_equalIn_struct w 9999 t us vs (by rw [hfo]; exact hu) hc.1, hfo]
          exact run_eqF 9998 hua hva hul hvl fs.toList l b hl hb
        · cases hl
      · cases hl
    split at hl
    · rename_i l he2
      obtain ⟨b, hb, rfl⟩ := Option.map_eq_some_iff.1 hl
      obtain ⟨k1, k2⟩ := key l b he2 hb
      exact ⟨_, he _ (run_eqGuard_agg w _ _ _ _ _ _ k2) (by rw [run_eql_struct, k1]; rfl), .of_val _ rfl⟩
    · rename_i l he2
      obtain ⟨b, hb, rfl⟩ := Option.map_eq_some_iff.1 hl
      obtain ⟨k1, k2⟩ := key l b he2 hb
      exact ⟨_, he _ (run_eqGuard_agg w _ _ _ _ _ _ k2) (by rw [run_neq_struct, k1]; rfl), .of_val _ rfl⟩
    · cases hl
  · cases hl

def aun (op : UnOp) : AV → Option AV
  | .p (.val (.bool b)) => if op = .not then some (.bool !b) else none
  | .p (.val (.int k n)) => if op = .neg then some (.p (.val (.int k (k.wrap (0 - n))))) else none
  | _ => none
theorem op_un (op : UnOp) (t : TypeId) (x : Operand) (av : AV) (h : o.op = .unOp op t x) (hl : aun op (s.ev x) = some av) : OpVal P ops o s av := .pure fun L loc a w hr => by
  have h1 := hr.ev x (looks_mem (by simp [h, Op.operands]))
  have he : ∀ v, (Op.unary op (a.eval x)).run P w = .ok v w → (execOp a.eval o).run P w = .ok (.value v) w := fun v hv => by simp [execOp, h, hv]
  generalize s.ev x = ax at *
  unfold aun at hl
  split at hl
  · split at hl
    · rename_i hop; subst hop; cases hl; exact ⟨_, he _ (by rw [h1.val]; simp [Op.unary]), .of_val _ rfl⟩
    · cases hl
  · split at hl
    · rename_i hop; subst hop; cases hl; exact ⟨_, he _ (by rw [h1.val]; simp [Op.unary, Op.intArith]), .of_val _ rfl⟩
    · cases hl
  · cases hl

theorem op_extract (x : Operand) (i : Nat) (cs : List AV) (av : AV) (h : o.op = .extract x i) (hx : s.ev x = .tup cs) (hl : cs[i]? = some av) : OpVal P ops o s av := .pure fun L loc a w hr => by
  have h1 := hr.ev x (looks_mem (by simp [h, Op.operands]))
  rw [hx] at h1
  have he : ∀ v, (Instr.extract (a.eval x) i).run P w = .ok v w → (execOp a.eval o).run P w = .ok (.value v) w := fun v hv => by simp [execOp, h, hv]
  generalize a.eval x = u at *
  cases h1 with
  | tup _ vs hvl hva =>
    have hlt := (List.getElem?_eq_some_iff.1 hl).1
    have := hva i av hl
    rw [Array.getD_eq_getD_getElem?, Array.getElem?_eq_getElem (by omega)] at this
    exact ⟨_, he (vs[i]'(by omega)) (by simp [Instr.extract, Array.getElem?_eq_getElem (show i < vs.size by omega)]), this⟩

/-! ### len -/
def alen (s : ASt) : AV → Option Int
  | .p (.seq _ rows) => some rows.length
  | .p (.val (.slice none 0 0)) => some 0
  | .own tag => match s.hp.lookup tag with
    | some (.row _ _ rows) => some rows.length
    | _ => none
  | .cap0 => some 0
  | _ => none
theorem alen_val {s : ASt} {u : Value} {n : Int} (h : alen s (.p (.val u)) = some n) : u = .slice none 0 0 ∧ n = 0 := by
  cases u with
  | slice ad l c =>
    cases ad with
    | none => cases l <;> cases c <;> simp [alen] at h; exact ⟨rfl, h.symm⟩
    | some a => simp [alen] at h
  | _ => simp [alen] at h
def isSl (P : Program) (t : TypeId) : Bool := match P.underlying t with
  | some (.slice _) => true
  | _ => false
theorem op_len (t : TypeId) (x : Operand) (n : Int) (h : o.op = .call { callee := .builtin .len, args := #[x], argTypes := #[t] }) (ht : isSl P t = true) (hl : alen s (s.ev x) = some n) : OpVal P ops o s (.int n) := .pure fun L loc a w hr => by
  have h1 := hr.ev x (looks_mem (by simp [h, Op.operands, Call.operands]))
  have hk : ∃ ad l c, a.eval x = .slice ad l c ∧ (l : Int) = n := by
    generalize a.eval x = u at *
    generalize s.ev x = ax at *
    cases h1 with
    | p y v hp =>
      cases hp with
      | val _ _ =>
        obtain ⟨rfl, rfl⟩ := alen_val hl
        exact ⟨_, _, _, rfl, rfl⟩
      | nil n a cap h0 => simp only [alen, Option.some.injEq] at hl; exact ⟨_, _, _, rfl, by simpa using hl⟩
      | seq n b off cap rows => simp only [alen, Option.some.injEq] at hl; exact ⟨_, _, _, rfl, hl⟩
    | own tag v ht h1 hv =>
      simp only [alen] at hl
      cases hlk : s.hp.lookup tag with
      | none => rw [hlk] at hl; simp at hl
      | some ob =>
        rw [hlk] at hl
        obtain ⟨_, u', hu', hor⟩ := hr.hp.at' tag ob hlk
        cases ob with
        | map _ _ _ _ _ => simp at hl
        | raw _ _ => simp at hl
        | lrec _ _ _ => simp at hl
        | boxP pin ty cs => simp at hl
        | row e m rows =>
          simp only [Option.some.injEq] at hl
          obtain ⟨flat, hown, _⟩ := hor
          obtain rfl := hv _ hu'
          rcases hown.2 with ⟨rfl, h0⟩ | ⟨g, cap, cur, rfl, _⟩
          · exact ⟨_, _, _, rfl, by omega⟩
          · exact ⟨_, _, _, rfl, hl⟩
    | cap0 ad _ => simp only [alen, Option.some.injEq] at hl; exact ⟨_, _, _, rfl, by simpa using hl⟩
    | _ => cases hl
  obtain ⟨ad, l, c, hx, rfl⟩ := hk
  unfold isSl at ht
  split at ht
  · rename_i e hu
    exact ⟨.int .i64 l, by simp [execOp, h, resolve, invoke, builtin, Builtin.len_, run_underlying hu, hx, goInt], .of_val _ rfl⟩
  · cases ht

/-! ### Functions as values; nil checks -/
theorem op_makeFunc (fn : Fn) (caps : Array Operand) (h : o.op = .makeFunc fn #[] caps) : OpVal P ops o s (.fn fn (caps.toList.map s.ev)) := .pure fun L loc a w hr => by
  refine ⟨.func fn #[] (caps.map a.eval), by simp [execOp, h, Instr.makeFunc], .fn fn _ _ (by simp) fun j x hx => ?_⟩
  simp only [List.getElem?_map, Option.map_eq_some_iff] at hx
  obtain ⟨c, hc, rfl⟩ := hx
  have hc' : caps[j]? = some c := by simpa using hc
  have : (caps.map a.eval).getD j undef = a.eval c := by
    rw [Array.getD_eq_getD_getElem?, Array.getElem?_map, hc']; rfl
  rw [this]
  exact hr.ev c (looks_mem (by simp [h, Op.operands]; exact Array.mem_of_getElem? hc'))
theorem op_nilCheck (x : Operand) (h : o.op = .nilCheck x) (hx : (∃ r k, s.ev x = .elt r k) ∨ (∃ f c, s.ev x = .fn (.func f) c) ∨ ∃ t k pin ty cs, s.ev x = .ptr t k ∧ s.hp.lookup t = some (.boxP pin ty cs)) : OpVal P ops o s (s.ev x) := .pure fun L loc a w hr => by
  have h1 := hr.ev x (looks_mem (by simp [h, Op.operands]))
  refine ⟨a.eval x, ?_, h1⟩
  rcases hx with ⟨r, k, e⟩ | ⟨f, c, e⟩ | ⟨t, k, pin, ty, cs, e, hlk⟩
  · rw [e] at h1
    generalize hu : a.eval x = u at *
    cases h1
    simp [execOp, h, hu]
  · rw [e] at h1
    generalize hu : a.eval x = u at *
    cases h1
    simp [execOp, h, hu]
  · rw [e] at h1
    generalize hu : a.eval x = u at *
    cases h1 with
    | ptr _ _ _ _ _ hv =>
      obtain ⟨_, u', hu', b, arr, rfl, _⟩ := hr.hp.at' t _ hlk
      obtain rfl := hv b hu'
      simp [execOp, h, hu]
theorem op_convert (src dst : TypeId) (x : Operand) (k k' : IntKind) (n : Int) (h : o.op = .convert src dst x) (hs : (P.underlying src).isSome = true) (hd : P.underlying dst = some (.int k)) (hx : s.ev x = .p (.val (.int k' n))) : OpVal P ops o s (.p (.val (.int k (k.wrap n)))) := .pure fun L loc a w hr => by
  have h1 := hr.ev x (looks_mem (by simp [h, Op.operands]))
  rw [hx] at h1
  obtain ⟨d, hd'⟩ := Option.isSome_iff_exists.1 hs
  exact ⟨_, by simp [execOp, h, convert, run_underlying hd', run_underlying hd, h1.val, Conv.intToInt], .of_val _ rfl⟩
theorem op_max (x y : Operand) (tys : Array TypeId) (a' b' : Int) (h : o.op = .call { callee := .builtin .max, args := #[x, y], argTypes := tys }) (hx : s.ev x = .int a') (hy : s.ev y = .int b') : OpVal P ops o s (.int (if a' < b' then b' else a')) := .pure fun L loc a w hr => by
  have h1 := hr.ev x (looks_mem (by simp [h, Op.operands, Call.operands]))
  have h2 := hr.ev y (looks_mem (by simp [h, Op.operands, Call.operands]))
  rw [hx] at h1
  rw [hy] at h2
  refine ⟨.int .i64 (if a' < b' then b' else a'), ?_, .of_val _ rfl⟩
  simp [execOp, h, resolve, invoke, builtin, h1.val, h2.val, Builtin.max_, Builtin.max2]
end
end Go.Proofs.Ytbhkcejjehgfcaa
