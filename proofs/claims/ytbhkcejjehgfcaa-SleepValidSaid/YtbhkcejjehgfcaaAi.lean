/- Lists of operations, run: what they come to. -/
import Derived.Test.YtbhkcejjehgfcaaAs
namespace Go.Proofs.Ytbhkcejjehgfcaa
open Go.RowKit Go.Sort

/-- What an operation yields that turns nothing. -/
def aop (P : Program) (s : ASt) : Op → Option AV
  | .move x => some (s.ev x)
  | .assign x => some (s.ev x)
  | .pick c x y => match s.ev c with
    | .p (.val (.bool b)) => some (if b = true then s.ev x else s.ev y)
    | _ => none
  | .load t x => aload P s t (s.ev x)
  | .fieldAddr t x f => afield P s t f (s.ev x)
  | .indexAddr t x i => match s.ev i with
    | .p (.val (.int _ n)) => aindex P s t n (s.ev x)
    | _ => none
  | .binOp op t x y _ => abin P op t (s.ev x) (s.ev y)
  | .unOp op _ x => aun op (s.ev x)
  | .extract x i => match s.ev x with
    | .tup cs => cs[i]?
    | _ => none
  | .convert src dst x => match s.ev x, P.underlying dst with
    | .p (.val (.int _ n)), some (.int k) => if (P.underlying src).isSome = true then some (.p (.val (.int k (k.wrap n)))) else none
    | _, _ => none
  | .build t parts => abuild P s t parts.toList
  | .buildSlice t len parts => abuildS P s t len parts.toList
  | .slice t x lo hi none => match evI s lo, evI s hi with
    | some li, some ui => aslice P s t li ui (s.ev x)
    | _, _ => none
  | .field t x f => apartF P s t f x
  | .index t x i => apartI P s t x i
  | .makeFunc fn ⟨[]⟩ caps => some (.fn fn (caps.toList.map s.ev))
  | .call { callee := .builtin .len, args := ⟨[x]⟩, argTypes := ⟨[t]⟩ } => if isSl P t = true then (alen s (s.ev x)).map fun n => .int n else none
  | .call { callee := .builtin .max, args := ⟨[x, y]⟩, .. } => match s.ev x, s.ev y with
    | .p (.val (.int .i64 a)), .p (.val (.int .i64 b)) => some (.int (if a < b then b else a))
    | _, _ => none
  | .nilCheck x => match s.ev x with
    | .elt r k => some (.elt r k)
    | .fn (.func f) c => some (.fn (.func f) c)
    | .ptr t k => match s.hp.lookup t with
      | some (.boxP _ _ _) => some (.ptr t k)
      | _ => none
    | _ => none
  | _ => none
theorem aop_sound {P : Program} {ops : Array Oper} {o : Oper} {s : ASt} {av : AV} (h : aop P s o.op = some av) : OpVal P ops o s av := by
  obtain ⟨dst, op, ty, pos, aft, gd⟩ := o
  simp only at h
  unfold aop at h
  split at h
  · cases h; exact op_move _ (.inl rfl)
  · cases h; exact op_move _ (.inr rfl)
  · split at h
    · rename_i b hb; cases h; exact op_pick _ _ _ b rfl hb
    · cases h
  · exact op_load _ _ _ rfl h
  · exact op_field _ _ _ _ rfl h
  · split at h
    · rename_i k n hi; exact op_index _ _ _ k n _ rfl hi h
    · cases h
  · exact op_bin _ _ _ _ _ _ rfl h
  · exact op_un _ _ _ _ rfl h
  · split at h
    · rename_i cs hx; exact op_extract _ _ _ _ rfl hx h
    · cases h
  · split at h
    · rename_i k' n k hx hd
      split at h
      · rename_i hs; cases h; exact op_convert _ _ _ k k' n rfl hs hd hx
      · cases h
    · cases h
  · exact op_build _ _ _ rfl h
  · exact op_buildS _ _ _ _ rfl h
  · split at h
    · rename_i li ui h1 h2; exact op_slice _ _ _ _ li ui _ rfl h1 h2 h
    · cases h
  · exact op_fieldV _ _ _ _ rfl h
  · exact op_indexV _ _ _ _ rfl h
  · cases h; exact op_makeFunc _ _ rfl
  · split at h
    · rename_i ht
      obtain ⟨n, hn, rfl⟩ := Option.map_eq_some_iff.1 h
      exact op_len _ _ n rfl ht hn
    · cases h
  · split at h
    · rename_i a b hx hy; cases h; exact op_max _ _ _ a b rfl hx hy
    · cases h
  · rename_i x
    split at h
    · rename_i r k hx; cases h; rw [← hx]; exact op_nilCheck x rfl (.inl ⟨r, k, hx⟩)
    · rename_i f c hx; cases h; rw [← hx]; exact op_nilCheck x rfl (.inr (.inl ⟨f, c, hx⟩))
    · rename_i t k hx
      split at h
      · rename_i pin ty cs hlk; cases h; rw [← hx]; exact op_nilCheck x rfl (.inr (.inr ⟨t, k, pin, ty, cs, hx, hlk⟩))
      · cases h
    · cases h
  · cases h

def dstOk (o : Oper) (s : ASt) : Prop := match o.dst with
  | some d => d < s.n
  | none => True
theorem dstOk.h {o : Oper} {s : ASt} (h : dstOk o s) : ∀ t, o.dst = some t → t < s.n := fun t e => by unfold dstOk at h; rw [e] at h; exact h
/-- What the arguments of a call are to the callee: as they are, or the walk's own slices as data. -/
inductive CallV (P : Program) (s : ASt) (f : FuncId) (xs : List AV) (r : AV) : Prop where
  | plain (he : Ent P f) (h : PureC P f xs r) (hok : (xs.all (·.okB 0)) = true)
  | view (he : Ent P f) (h : PureC P f (xs.map (AV.view s)) r) (hok : ((xs.map (AV.view s)).all (·.okB 0)) = true) (hs : r.scal = true)
  | viewF (x : PV) (e : r = .p x) (he : Ent P f) (h : PureF P f (xs.map (AV.view s)) x) (hok : ((xs.map (AV.view s)).all (·.okB 0)) = true)
theorem CallV.val {P : Program} {s : ASt} {ops : Array Oper} {o : Oper} {f : FuncId} {args : Array Operand} {tys : Array TypeId} {r : AV} (ho : o.op = .call { callee := .value (.func f), args := args, argTypes := tys }) (h : CallV P s f (args.toList.map s.ev) r) : OpVal P ops o s r := by
  cases h with
  | plain he h hok => exact op_call f args tys r ho he h hok
  | view he h hok hs =>
    rw [List.map_map] at h hok
    exact op_callV f args tys r ho he h hok hs
  | viewF x e he h hok =>
    rw [List.map_map] at h hok
    rw [e]
    exact op_callVF f args tys x ho he h hok
/-- One operation; K: what then holds. -/
def WO (P : Program) (o : Oper) (s : ASt) (K : ASt → Prop) : Prop := match o.op with
  | .call { callee := .value (.func f), args := args, .. } => (∃ r, CallV P s f (args.toList.map s.ev) r ∧ K (s.put o.dst r)) ∨ CallX P s f (args.toList.map s.ev) o.dst K
  | .call { callee := .value (.tmp t), args := args, .. } => match s.get t with
    | .fn (.func f) caps => (∃ r, (Ent P f ∧ PureC P f (args.toList.map s.ev ++ caps) r ∧ ((args.toList.map s.ev ++ caps).all (·.okB 0)) = true) ∧ K (s.put o.dst r)) ∨ CallX P s f (args.toList.map s.ev ++ caps) o.dst K
    | _ => False
  | .makeMap t none => match mapTy P t with
    | some (k, _, _) => K ((s.add (.map none P k 0 fun _ => none)).put o.dst (.own s.N))
    | none => False
  | .lookup t x i ok => match s.ev x with
    | .own tag => match s.hp.lookup tag, mapTy P t, aval (s.ev i) with
      | some (.map _ P' k' _ f), some (k, _, z), some key => match keyOf P k key with
        | some kl => (P' = P ∧ k' = k ∧ Go.Maps.Keyed P k) ∧ K (s.put o.dst (if ok = true then .tup [cv ((f kl).getD z), .p (.val (.bool (f kl).isSome))] else cv ((f kl).getD z)))
        | none => False
      | _, _, _ => False
    | _ => False
  | .mapUpdate t x i y => match s.ev x with
    | .own tag => match s.hp.lookup tag, mapTy P t, aval (s.ev i), aval (s.ev y) with
      | some (.map pin P' k' n f), some (k, _, _), some key, some val => match keyOf P k key with
        | some kl => (P' = P ∧ k' = k ∧ Go.Maps.Keyed P k ∧ n < maxLen ∧ o.dst = none) ∧ K { s with hp := setHp s.hp tag (.map pin P k (n + 1) (updF f kl (some val))) }
        | none => False
      | _, _, _, _ => False
    | _ => False
  | .call { callee := .builtin .delete, args := ⟨[x, i]⟩, argTypes := ⟨[t, k0]⟩ } => match s.ev x with
    | .own tag => match s.hp.lookup tag, mapTy P t, aval (s.ev i) with
      | some (.map pin P' k' n f), some (k, _, _), some key => match keyOf P k key with
        | some kl => (P' = P ∧ k' = k ∧ k0 = k ∧ Go.Maps.Keyed P k) ∧ K (ASt.put { s with hp := setHp s.hp tag (.map pin P k n (updF f kl none)) } o.dst (.tup []))
        | none => False
      | _, _, _ => False
    | _ => False
  | .range t x => match s.ev x with
    | .own tag => match s.hp.lookup tag, mapTy P t with
      | some (.map _ P' k' n f), some (k, _, _) => (P' = P ∧ k' = k) ∧ ∀ b r es ck, MapIs P k n f es ck → K (ASt.put { s with hp := (s.N, .raw (.pointer (some ⟨r, 0, none⟩)) (.mapIter (some b) ck #[] ck)) :: setHp s.hp tag (.raw (.map (some b)) (.map es ck)), N := s.N + 1 } o.dst (.own s.N))
      | _, _ => False
    | _ => False
  | .next x false => match s.ev x with
    | .own ti => ∃ (tm r b since c0 : Nat) (seen : Array Nat) (es : Array MapEntry) (ck : Nat), (s.hp.lookup ti = some (.raw (.pointer (some ⟨r, 0, none⟩)) (.mapIter (some b) since seen c0)) ∧ s.hp.lookup tm = some (.raw (.map (some b)) (.map es ck)) ∧ (∀ x ∈ es.toList, x.born < since) ∧ since ≤ c0) ∧ ((lefts es seen).size = 0 → K (s.put o.dst (.tup [.p (.val (.bool false))]))) ∧ ∀ e ∈ (lefts es seen).toList, K (ASt.put { s with hp := setHp s.hp ti (.raw (.pointer (some ⟨r, 0, none⟩)) (.mapIter (some b) since (seen.push e.born) ck)) } o.dst (.tup [.p (.val (.bool true)), cv e.key, cv e.val]))
    | _ => False
  | .entry x => match s.ev x with
    | .own ti => ∃ (tm r b since : Nat) (seen : Array Nat) (es : Array MapEntry) (ck : Nat) (e : MapEntry), (s.hp.lookup ti = some (.raw (.pointer (some ⟨r, 0, none⟩)) (.mapIter (some b) since (seen.push e.born) ck)) ∧ s.hp.lookup tm = some (.raw (.map (some b)) (.map es ck)) ∧ e ∈ es.toList ∧ (es.toList.map (·.born)).Nodup) ∧ K (s.put o.dst (.tup [cv e.key, cv e.val]))
    | _ => False
  | .box ty x => match acells (s.ev x) with
    | some cs => K ((s.add (.boxP none ty cs)).put o.dst (.ptr s.N 0))
    | none => False
  | .alloc ty => match tyZero P ty with
    | some zs => K ((s.add (.boxP none ty (zs.map fun v => .p (.val v)))).put o.dst (.ptr s.N 0))
    | none => False
  | .store t x y => match s.ev x with
    | .ptr tag off => match s.hp.lookup tag with
      | some (.boxP pin ty cs) => match acells (s.ev y) with
        | some ys => (tySz P t = some ys.length ∧ off + ys.length ≤ cs.length ∧ o.dst = none) ∧ K { s with hp := setHp s.hp tag (.boxP pin ty (asplice cs off ys)) }
        | none => False
      | _ => False
    | .rptr tag n k off => match s.hp.lookup tag, acells (s.ev y) with
      | some (.row e n' rows), some ys => match rows[k]?, pureL ys with
        | some r, some ps => (n' = n ∧ tySz P t = some ys.length ∧ off + ys.length ≤ n ∧ o.dst = none) ∧ K { s with hp := setHp s.hp tag (.row e n (rows.set k (asplice r off ps))) }
        | _, _ => False
      | _, _ => False
    | _ => False
  | .makeSlice t x y => match s.ev x, s.ev y with
    | .p (.val (.int _ l)), .p (.val (.int _ l')) => match elemTyB P t with
      | some (e, n, bytes) => match tyZero P e with
        | some zs => (l = l' ∧ 0 ≤ l ∧ l.toNat ≤ maxLen ∧ bytes * l.toNat ≤ 140737488355328) ∧ K ((s.add (.row e n (List.replicate l.toNat (zs.map .val)))).put o.dst (.own s.N))
        | none => False
      | none => False
    | _, _ => False
  | .buildSlice t 0 ⟨[]⟩ => match elemTyB P t with
    | some (e, n, _) => K ((s.add (.row e n [])).put o.dst (.own s.N))
    | none => False
  | .call { callee := .builtin .append, args := ⟨[x, y]⟩, argTypes := ⟨[ty, ty']⟩ } => match s.ev x, s.ev y with
    | .own tag, .p (.seq n ys) => match s.hp.lookup tag, elemTyB P ty with
      | some (.row e m rows), some (e', m', bytes) => (ty = ty' ∧ e = e' ∧ n = m ∧ m = m' ∧ rows.length + ys.length ≤ maxLen ∧ (rows.length + ys.length) * bytes ≤ 140737488355328) ∧ K (ASt.put { s.subst tag .junk with hp := setHp (s.subst tag .junk).hp tag (.row e m (rows ++ ys)) } o.dst (.own tag))
      | _, _ => False
    | .p (.val (.slice none 0 0)), .p (.seq n ys) => match elemTyB P ty with
      | some (e', m', bytes) => (ty = ty' ∧ n = m' ∧ ys.length ≤ maxLen ∧ ys.length * bytes ≤ 140737488355328) ∧ K ((s.add (.row e' n ys)).put o.dst (.own s.N))
      | none => False
    | _, _ => False
  | op => match aop P s op with
    | some av => K (s.put o.dst av)
    | none => False
theorem WO.sound {P : Program} {ops : Array Oper} {Q : Exit → ASt → Prop} {rest : List Oper} {o : Oper} {s : ASt} (hw : Wants ops o s) (hd : dstOk o s) (h : WO P o s (TL P ops Q rest)) : TL P ops Q (o :: rest) s := by
  obtain ⟨dst, op, ty, pos, aft, gd⟩ := o
  unfold WO at h
  simp only at h
  split at h
  · rcases h with ⟨r, h1, h2⟩ | h
    · exact TL.val hw r (h1.val rfl) hd.h h2
    · exact TL.effG hw (op_callM _ _ _ rfl h hd.h)
  · split at h
    · rename_i f caps hf
      rcases h with ⟨r, ⟨h1, h2, h3⟩, h4⟩ | h
      · exact TL.val hw r (op_callF _ f caps _ _ r rfl hf h1 h2 h3) hd.h h4
      · exact TL.effG hw (op_callMF _ f caps _ _ rfl hf h hd.h)
    · exact h.elim
  · split at h
    · rename_i k e z ht; exact TL.eff hw (op_makeMap _ k e z rfl ht hd.h) h
    · exact h.elim
  · split at h
    · rename_i tag hx
      split at h
      · rename_i pin P' k' n f k e z key hlk ht hi
        split at h
        · rename_i kl hk
          obtain ⟨⟨rfl, rfl, hK⟩, h⟩ := h
          refine TL.val hw _ (op_lookup _ _ _ _ tag n pin k' e z key kl f rfl ht hx hlk hK hi hk) hd.h h
        · exact h.elim
      · exact h.elim
    · exact h.elim
  · split at h
    · rename_i tag hx
      split at h
      · rename_i pin P' k' n f k e z key val hlk ht hi hy
        split at h
        · rename_i kl hk
          obtain ⟨⟨rfl, rfl, hK, hn, hd0⟩, h⟩ := h
          exact TL.eff hw (op_mapUpdate _ _ _ _ tag n pin k' e z key val kl f rfl ht hx hlk hK hi hk hy hn hd0) h
        · exact h.elim
      · exact h.elim
    · exact h.elim
  · split at h
    · rename_i tag hx
      split at h
      · rename_i pin P' k' n f k e z key hlk ht hi
        split at h
        · rename_i kl hk
          obtain ⟨⟨rfl, rfl, rfl, hK⟩, h⟩ := h
          exact TL.eff hw (op_delete _ _ _ _ tag n pin _ e z key kl f rfl rfl ht hx hlk hK hi hk hd.h) h
        · exact h.elim
      · exact h.elim
    · exact h.elim
  · split at h
    · rename_i tag hx
      split at h
      · rename_i pin P' k' n f k e z hlk ht
        obtain ⟨⟨rfl, rfl⟩, h⟩ := h
        exact TL.effG hw (op_range _ _ tag n pin k' e z f rfl ht hx hlk hd.h h)
      · exact h.elim
    · exact h.elim
  · split at h
    · rename_i ti hx
      obtain ⟨tm, r, b, since, c0, seen, es, ck, ⟨h1, h2, h3, h4⟩, h5, h6⟩ := h
      exact TL.effG hw (op_next _ ti tm r b since c0 seen es ck rfl hx h1 h2 h3 h4 hd.h h5 h6)
    · exact h.elim
  · split at h
    · rename_i ti hx
      obtain ⟨tm, r, b, since, seen, es, ck, e, ⟨h1, h2, h3, h4⟩, h⟩ := h
      exact TL.val hw _ (op_entry _ ti tm r b since seen es ck e rfl hx h1 h2 h3 h4) hd.h h
    · exact h.elim
  · split at h
    · rename_i cs hc; exact TL.eff hw (op_box _ _ cs rfl hc hd.h) h
    · exact h.elim
  · split at h
    · rename_i zs hz; exact TL.eff hw (op_alloc _ zs rfl hz hd.h) h
    · exact h.elim
  · split at h
    · rename_i tag off hx
      split at h
      · rename_i pin ty' cs hlk
        split at h
        · rename_i ys hy
          obtain ⟨⟨h1, h2, h3⟩, h4⟩ := h
          exact TL.eff hw (op_store _ _ _ tag off pin ty' cs ys rfl hx hlk hy h1 h2 h3) h4
        · exact h.elim
      · exact h.elim
    · rename_i tag n k off hx
      split at h
      · rename_i e n' rows ys hlk hy
        split at h
        · rename_i r ps hr hp
          obtain ⟨⟨rfl, h1, h2, h3⟩, h4⟩ := h
          exact TL.eff hw (op_storeR _ _ _ tag n' k off e rows r ys ps rfl hx hlk hr hy hp h1 h2 h3) h4
        · exact h.elim
      · exact h.elim
    · exact h.elim
  · split at h
    · rename_i k l k' l' hx hy
      split at h
      · rename_i e n bytes ht
        split at h
        · rename_i zs hz
          obtain ⟨⟨rfl, h1, h2, h3⟩, h4⟩ := h
          obtain ⟨m, rfl⟩ : ∃ m : Nat, l = m := ⟨l.toNat, by omega⟩
          simp only [Int.toNat_natCast] at h2 h3 h4
          exact TL.eff hw (op_makeS _ _ _ k k' e n bytes m zs rfl hx hy ht hz h2 h3 hd.h) h4
        · exact h.elim
      · exact h.elim
    · exact h.elim
  · split at h
    · rename_i e n bytes ht
      exact TL.eff hw (op_buildS0 _ e n bytes rfl ht hd.h) h
    · exact h.elim
  · split at h
    · rename_i tag n ys hx hy
      split at h
      · rename_i e m rows e' m' bytes hlk ht
        obtain ⟨⟨rfl, rfl, rfl, rfl, h1, h2⟩, h3⟩ := h
        exact TL.eff hw (op_append _ _ _ tag e n bytes rows ys rfl hx hlk ht hy h1 h2 hd.h) h3
      · exact h.elim
    · rename_i n ys hx hy
      split at h
      · rename_i e' m' bytes ht
        obtain ⟨⟨rfl, rfl, h1, h2⟩, h3⟩ := h
        exact TL.eff hw (op_appendN _ _ _ e' n bytes ys rfl hx ht hy h1 h2 hd.h) h3
      · exact h.elim
    · exact h.elim
  · split at h
    · rename_i av hav; exact TL.val hw av (aop_sound hav) hd.h h
    · exact h.elim
/-- One guarded operation: b, what its guard is; want: what it wants. -/
def WG (b want : Bool) (yes no : Prop) : Prop := (b = want → yes) ∧ (b = (!want) → no)
/-- One operation of a region; ds: the slots that the region's operations write. -/
def WS (P : Program) (ds : List (Option Nat)) (o : Oper) (s : ASt) (K : ASt → Prop) : Prop := dstOk o s ∧ match o.guard with
  | none => WO P o s K
  | some (g, want) => match ds[g]? with
    | some (some t) => match s.get t with
      | .p (.val (.bool b)) => WG b want (WO P o (s.put (some t) (.bool want)) K) (K ((s.put (some t) (.bool (!want))).put o.dst (.tup [])))
      | .tup [] => K (s.put o.dst (.tup []))
      | _ => False
    | _ => False
/-- A list of operations. -/
def WL (P : Program) (ds : List (Option Nat)) (Q : ASt → Prop) : List Oper → ASt → Prop
  | [], s => Q s
  | o :: rest, s => WS P ds o s (WL P ds Q rest)
theorem WO.mono {P : Program} {o : Oper} {s : ASt} {K K' : ASt → Prop} (h : ∀ s, K s → K' s) (k : WO P o s K) : WO P o s K' := by
  unfold WO at *
  repeat' (first
    | exact k.elim
    | exact h _ k
    | exact ⟨k.1, h _ k.2⟩
    | exact let ⟨r, h1, h2⟩ := k; ⟨r, h1, h _ h2⟩
    | exact k.imp (fun ⟨r, h1, h2⟩ => ⟨r, h1, h _ h2⟩) (CallX.mono h)
    | exact ⟨k.1, fun b r es ck hm => h _ (k.2 b r es ck hm)⟩
    | exact let ⟨a1, a2, a3, a4, a5, a6, a7, a8, h1, h2, h3⟩ := k; ⟨a1, a2, a3, a4, a5, a6, a7, a8, h1, fun e => h _ (h2 e), fun e he => h _ (h3 e he)⟩
    | exact let ⟨a1, a2, a3, a4, a5, a6, a7, a8, h1, h2⟩ := k; ⟨a1, a2, a3, a4, a5, a6, a7, a8, h1, h _ h2⟩
    | split at k)
theorem WS.mono {P : Program} {ds : List (Option Nat)} {o : Oper} {s : ASt} {K K' : ASt → Prop} (h : ∀ s, K s → K' s) (k : WS P ds o s K) : WS P ds o s K' := by
  unfold WS at *
  refine ⟨k.1, ?_⟩
  have k2 := k.2
  split at k2
  · exact WO.mono h k2
  · split at k2
    · split at k2
      · exact ⟨fun e => WO.mono h (k2.1 e), fun e => h _ (k2.2 e)⟩
      · exact h _ k2
      · exact k2.elim
    · exact k2.elim
/-- States that say the same. -/
structure Sq (s s' : ASt) : Prop where
  hp : s'.hp = s.hp
  n : s'.n = s.n
  N : s'.N = s.N
  get : ∀ t, s'.get t = s.get t
theorem Sq.refl (s : ASt) : Sq s s := ⟨rfl, rfl, rfl, fun _ => rfl⟩
theorem Sq.symm {s s' : ASt} (h : Sq s s') : Sq s' s := ⟨h.hp.symm, h.n.symm, h.N.symm, fun t => (h.get t).symm⟩
theorem Sq.trans {s s' s'' : ASt} (h : Sq s s') (k : Sq s' s'') : Sq s s'' := ⟨k.hp.trans h.hp, k.n.trans h.n, k.N.trans h.N, fun t => (k.get t).trans (h.get t)⟩
theorem Sq.put {s s' : ASt} (h : Sq s s') (d : Option Nat) (x : AV) : Sq (s.put d x) (s'.put d x) := by
  cases d with
  | none => exact h
  | some d => exact ⟨h.hp, h.n, h.N, fun t => by rw [ASt.get_put, ASt.get_put, h.get]⟩
theorem Sq.same {s : ASt} {t : Nat} {x : AV} (h : s.get t = x) : Sq s (s.put (some t) x) := ⟨rfl, rfl, rfl, fun k => by
  rw [ASt.get_put]
  split
  · rename_i e; rw [e, h]
  · rfl⟩
theorem Sq.rel {X : Nat → Prop} {L : Lim} {s s' : ASt} {loc : Nat → Option Value} {a : Act} {w : World} (h : Sq s s') (r : Rel X L s loc a w) : Rel X L s' loc a w :=
  ⟨r.defers, r.size.trans h.n.symm, fun t ht => by rw [h.N, h.get]; exact r.fr t ht, by rw [h.N, h.hp]; exact r.hp⟩
theorem Sq.weak {s s' : ASt} (h : Sq s s') : Weak s s' := fun _ loc _ _ r => ⟨loc, h.rel r, Ext.refl _ _⟩
theorem Sq.val {P : Program} {ops : Array Oper} {o : Oper} {s s' : ASt} {av : AV} (h : Sq s s') (k : OpVal P ops o s av) : OpVal P ops o s' av := fun L loc a w r => by
  have := k L loc a w (h.symm.rel r)
  rw [h.N]; exact this
theorem WL.sound {P : Program} {ops : Array Oper} {Q : Exit → ASt → Prop} : ∀ {l : List Oper} {s : ASt}, WL P (ops.toList.map (·.dst)) (Q .normal) l s → TL P ops Q l s
  | [], _, h => TL.nil h
  | o :: rest, s, h => by
    obtain ⟨hd, h⟩ := h
    split at h
    · rename_i hg
      exact WO.sound (by simp [Wants, hg]) hd (WO.mono (fun s k => WL.sound k) h)
    · rename_i g want hg
      split at h
      · rename_i t ht
        split at h
        · rename_i b hb
          have ht' : (ops[g]?).bind (·.dst) = some t := by
            simp only [List.getElem?_map, Option.map_eq_some_iff, Array.getElem?_toList] at ht
            obtain ⟨o', h1, h2⟩ := ht
            rw [h1]; exact h2
          by_cases hbw : b = want
          · have hw := (Sq.same (s := s) (t := t) (x := .bool want) (by rw [hb, hbw])).weak
            exact TL.weak hw (WO.sound (by simp only [Wants, hg, ht', ASt.get_put, if_true]) (by unfold dstOk at hd ⊢; exact hd) (WO.mono (fun s k => WL.sound k) (h.1 hbw)))
          · have hbn : b = (!want) := by cases b <;> cases want <;> simp_all
            have hw := (Sq.same (s := s) (t := t) (x := .bool (!want)) (by rw [hb, hbn])).weak
            exact TL.weak hw (TL.skip (by simp only [Unwanted, hg, ht', ASt.get_put, if_true]; exact .inl trivial) (WL.sound (h.2 hbn)) hd.h)
        · rename_i hb
          have ht' : (ops[g]?).bind (·.dst) = some t := by
            simp only [List.getElem?_map, Option.map_eq_some_iff, Array.getElem?_toList] at ht
            obtain ⟨o', h1, h2⟩ := ht
            rw [h1]; exact h2
          exact TL.skip (by simp only [Unwanted, hg, ht']; exact .inr hb) (WL.sound h) hd.h
        · exact h.elim
      · exact h.elim
theorem WL.step {P : Program} {ds : List (Option Nat)} {Q : ASt → Prop} {o : Oper} {rest : List Oper} {s : ASt} (h : ∀ K : ASt → Prop, (∀ s, WL P ds Q rest s → K s) → WS P ds o s K) : WL P ds Q (o :: rest) s := h _ fun _ h => h
theorem WL.fin {P : Program} {ds : List (Option Nat)} {Q : ASt → Prop} {s : ASt} (h : Q s) : WL P ds Q [] s := h
theorem T.region' {F : Fence} [FOk F] {P : Program} {Q : Exit → ASt → Prop} {s : ASt} {id : Nat} {l : List Oper} (hd : noDefB l = true) (h : WL P (l.map (·.dst)) (Q .normal) l s) : T F P (.region id l.toArray false) Q s := T.region hd (WL.sound (ops := l.toArray) (by rw [show NQ Q .normal = Q .normal from funext (NQ.normal Q)]; simpa using h))
end Go.Proofs.Ytbhkcejjehgfcaa
