/- Regions that draw their order, with stores among what is drawn: values that float past stores are the same in every memory that they may see. -/
import Derived.Test.YtbhkcejjehgfcaaAq
namespace Go.Proofs.Ytbhkcejjehgfcaa
open Go.RowKit Go.Sort
set_option linter.unusedSimpArgs false
set_option linter.unusedVariables false

def allP {α : Type} : List α → (α → Prop) → Prop
  | [], _ => True
  | x :: r, f => f x ∧ allP r f
theorem allP_mem {α : Type} : ∀ {l : List α} {f : α → Prop}, allP l f → ∀ x ∈ l, f x
  | _ :: _, _, h, _, hx => (List.mem_cons.1 hx).elim (fun e => e ▸ h.1) (fun h' => allP_mem h.2 _ h')
theorem WOv.val {P : Program} {ops : Array Oper} {o : Oper} {s : ASt} {K : ASt → Prop} (h : WOv P o s K) : ∃ av, OpVal P ops o s av ∧ K (s.put o.dst av) := by
  obtain ⟨dst, op, ty, pos, aft, gd⟩ := o
  unfold WOv at h
  simp only at h
  split at h
  · obtain ⟨r, h1, h2⟩ := h
    exact ⟨r, h1.val rfl, h2⟩
  · split at h
    · rename_i f caps hf
      obtain ⟨r, ⟨h1, h2, h3⟩, h4⟩ := h
      exact ⟨r, op_callF _ f caps _ _ r rfl hf h1 h2 h3, h4⟩
    · exact h.elim
  · split at h
    · rename_i av hav; exact ⟨av, aop_sound hav, h⟩
    · exact h.elim
/-- The operation yields av. -/
def Chk (P : Program) (o : Oper) (s : ASt) (av : AV) : Prop := WOv P o s fun s' => s' = s.put o.dst av
theorem Chk.val {P : Program} {ops : Array Oper} {o : Oper} {s : ASt} {av : AV} {d : Nat} (hd : o.dst = some d) (h : Chk P o s av) : OpVal P ops o s av := by
  obtain ⟨av', h1, h2⟩ := WOv.val (ops := ops) h
  rw [hd] at h2
  have : av' = av := by
    have := congrArg ASt.fr h2
    simpa [ASt.put] using this
  exact this ▸ h1
theorem OpVal.agree {P : Program} {ops : Array Oper} {o : Oper} {s s' : ASt} {av : AV} (h : OpVal P ops o s av) (hh : s'.hp = s.hp) (hn : s'.n = s.n) (hN : s'.N = s.N) (hg : ∀ t ∈ o.looksAt ops, s'.get t = s.get t) : OpVal P ops o s' av := fun L loc a w hr => by
  have := h L loc a w ⟨hr.defers, hr.size.trans hn, fun t ht => by have := hr.fr t ht; rw [hg t ht, hN] at this; exact this, by have := hr.hp; rw [hN, hh] at this; exact this⟩
  rw [hN]; exact this
/-- The operation, with its guard, yields av. -/
def GOK (P : Program) (ops : Array Oper) (o : Oper) (s : ASt) (av : AV) : Prop := match o.guard with
  | none => OpVal P ops o s av
  | some (g, want) => ∃ t b, (ops[g]?).bind (·.dst) = some t ∧ s.get t = .bool b ∧ (b = want → OpVal P ops o s av) ∧ (b ≠ want → av = .junk)
/-- One that writes. -/
def WOw (P : Program) (o : Oper) (s : ASt) (K : ASt → Prop) : Prop := match o.op with
  | .store t x y => match s.ev x with
    | .ptr tag off => match s.hp.lookup tag with
      | some (.boxP pin ty cs) => match acells (s.ev y) with
        | some ys => (tySz P t = some ys.length ∧ off + ys.length ≤ cs.length ∧ o.dst = none) ∧ K { s with hp := setHp s.hp tag (.boxP pin ty (asplice cs off ys)) }
        | none => False
      | _ => False
    | _ => False
  | .alloc ty => match tyZero P ty with
    | some zs => K ((s.add (.boxP none ty (zs.map fun v => .p (.val v)))).put o.dst (.ptr s.N 0))
    | none => False
  | .box ty x => match acells (s.ev x) with
    | some cs => K ((s.add (.boxP none ty cs)).put o.dst (.ptr s.N 0))
    | none => False
  | .makeSlice t x y => match s.ev x, s.ev y with
    | .p (.val (.int _ l)), .p (.val (.int _ l')) => match elemTyB P t with
      | some (e, n, bytes) => match tyZero P e with
        | some zs => (l = l' ∧ 0 ≤ l ∧ l.toNat ≤ maxLen ∧ bytes * l.toNat ≤ 140737488355328) ∧ K ((s.add (.row e n (List.replicate l.toNat (zs.map .val)))).put o.dst (.own s.N))
        | none => False
      | none => False
    | _, _ => False
  | .buildSlice t 0 ⟨[]⟩ => match elemTyB P t with
    | some (e, n, _) => K ((s.add (.row e n [])).put o.dst (.own s.N))
    | none => False
  | .call { callee := .builtin .append, args := ⟨[x, y]⟩, argTypes := ⟨[ty, ty']⟩ } => match s.ev x, s.ev y with
    | .own tag, .p (.seq n ys) => match s.hp.lookup tag, elemTyB P ty with
      | some (.row e m rows), some (e', m', bytes) => (ty = ty' ∧ e = e' ∧ n = m ∧ m = m' ∧ rows.length + ys.length ≤ maxLen ∧ (rows.length + ys.length) * bytes ≤ 140737488355328) ∧ K (ASt.put { s with hp := (s.N, .row e m (rows ++ ys)) :: s.hp.filter (fun p => p.1 != tag), N := s.N + 1 } o.dst (.own s.N))
      | _, _ => False
    | _, _ => False
  | _ => False
theorem ev_agree {ops : Array Oper} {o : Oper} {s s' : ASt} (hg : ∀ t ∈ o.looksAt ops, s'.get t = s.get t) {x : Operand} (hx : x ∈ o.op.operands.toList) : s'.ev x = s.ev x := by
  cases x with
  | tmp t => exact hg t (List.mem_append.2 (.inl (List.mem_filterMap.2 ⟨_, hx, rfl⟩)))
  | _ => rfl
/-- What a writer does, whatever else the frame holds. -/
def WEff (P : Program) (ops : Array Oper) (o : Oper) (s : ASt) (h' : Hp × Nat) (av : AV) : Prop := ∀ s' : ASt, s'.hp = s.hp → s'.n = s.n → s'.N = s.N → (∀ t ∈ o.looksAt ops, s'.get t = s.get t) → (∀ t, o.dst = some t → t < s'.n) → OpEff P o s' (ASt.put { s' with hp := h'.1, N := h'.2 } o.dst av)
theorem WOw.eff {P : Program} {ops : Array Oper} {o : Oper} {s : ASt} {K : ASt → Prop} (h : WOw P o s K) : ∃ h' av, WEff P ops o s h' av ∧ K (ASt.put { s with hp := h'.1, N := h'.2 } o.dst av) := by
  obtain ⟨dst, op, ty, pos, aft, gd⟩ := o
  unfold WOw at h
  simp only at h
  split at h
  · rename_i t x y
    split at h
    · rename_i tag off hx
      split at h
      · rename_i pin ty' cs hlk
        split at h
        · rename_i ys hy
          obtain ⟨⟨h1, h2, h3⟩, h4⟩ := h
          subst h3
          refine ⟨(setHp s.hp tag (.boxP pin ty' (asplice cs off ys)), s.N), .junk, fun s' e1 e2 e3 e4 hd => ?_, h4⟩
          have ex : s'.ev x = s.ev x := ev_agree e4 (by simp [Op.operands])
          have ey : s'.ev y = s.ev y := ev_agree e4 (by simp [Op.operands])
          have := op_store (P := P) (o := ⟨none, .store t x y, ty, pos, aft, gd⟩) (s := s') t x y tag off pin ty' cs ys rfl (by rw [ex, hx]) (by rw [e1, hlk]) (by rw [ey, hy]) h1 h2 rfl
          rw [e1] at this
          simp only [ASt.put, ← e3]
          exact this
        · exact h.elim
      · exact h.elim
    · exact h.elim
  · rename_i ty'
    split at h
    · rename_i zs hz
      refine ⟨((s.N, .boxP none ty' (zs.map fun v => .p (.val v))) :: s.hp, s.N + 1), .ptr s.N 0, fun s' e1 e2 e3 e4 hd => ?_, h⟩
      have := op_alloc (P := P) (o := ⟨dst, .alloc ty', ty, pos, aft, gd⟩) (s := s') ty' zs rfl hz hd
      simp only [ASt.add, e1, e3] at this
      exact this
    · exact h.elim
  · rename_i ty' x
    split at h
    · rename_i cs hx
      refine ⟨((s.N, .boxP none ty' cs) :: s.hp, s.N + 1), .ptr s.N 0, fun s' e1 e2 e3 e4 hd => ?_, h⟩
      have ex : s'.ev x = s.ev x := ev_agree e4 (by simp [Op.operands])
      have := op_box (P := P) (o := ⟨dst, .box ty' x, ty, pos, aft, gd⟩) (s := s') ty' x cs rfl (by rw [ex, hx]) hd
      simp only [ASt.add, e1, e3] at this
      exact this
    · exact h.elim
  · rename_i t x y
    split at h
    · rename_i k l k' l' hx hy
      split at h
      · rename_i e n bytes ht
        split at h
        · rename_i zs hz
          obtain ⟨⟨rfl, h0, h1, h2⟩, h4⟩ := h
          obtain ⟨m, rfl⟩ : ∃ m : Nat, l = m := ⟨l.toNat, by omega⟩
          simp only [Int.toNat_natCast] at h1 h2 h4
          refine ⟨((s.N, .row e n (List.replicate m (zs.map .val))) :: s.hp, s.N + 1), .own s.N, fun s' e1 e2 e3 e4 hd => ?_, h4⟩
          have ex : s'.ev x = s.ev x := ev_agree e4 (by simp [Op.operands])
          have ey : s'.ev y = s.ev y := ev_agree e4 (by simp [Op.operands])
          have := op_makeS (P := P) (o := ⟨dst, .makeSlice t x y, ty, pos, aft, gd⟩) (s := s') t x y k k' e n bytes m zs rfl (by rw [ex, hx]) (by rw [ey, hy]) ht hz h1 h2 hd
          simp only [ASt.add, e1, e3] at this
          exact this
        · exact h.elim
      · exact h.elim
    · exact h.elim
  · rename_i t
    split at h
    · rename_i e n bytes ht
      refine ⟨((s.N, .row e n []) :: s.hp, s.N + 1), .own s.N, fun s' e1 e2 e3 e4 hd => ?_, h⟩
      have := op_buildS0 (P := P) (o := ⟨dst, .buildSlice t 0 ⟨[]⟩, ty, pos, aft, gd⟩) (s := s') t e n bytes rfl ht hd
      simp only [ASt.add, e1, e3] at this
      exact this
    · exact h.elim
  · rename_i x y ty1 ty2
    split at h
    · rename_i tag n ys hx hy
      split at h
      · rename_i e m rows e' m' bytes hlk ht
        obtain ⟨⟨rfl, rfl, rfl, rfl, h1, h2⟩, h3⟩ := h
        refine ⟨((s.N, .row e n (rows ++ ys)) :: s.hp.filter (fun p => p.1 != tag), s.N + 1), .own s.N, fun s' e1 e2 e3 e4 hd => ?_, h3⟩
        have ex : s'.ev x = s.ev x := ev_agree e4 (by simp [Op.operands, Call.operands])
        have ey : s'.ev y = s.ev y := ev_agree e4 (by simp [Op.operands, Call.operands])
        have := op_appendW (P := P) (o := ⟨dst, .call { callee := .builtin .append, args := ⟨[x, y]⟩, argTypes := ⟨[ty1, ty1]⟩ }, ty, pos, aft, gd⟩) (s := s') x y ty1 tag e n bytes rows ys rfl (by rw [ex, hx]) (by rw [e1, hlk]) ht (by rw [ey, hy]) h1 h2 hd
        simp only [e1, e3] at this
        exact this
      · exact h.elim
    · exact h.elim
  · exact h.elim

/-! ### What is asked in the order of the text -/
def dav (o : Oper) (s : ASt) : AV := match o.dst with
  | some d => s.get d
  | none => .junk
abbrev Pend := Oper × Nat × AV
/-- A value that floats: among the memories before, and those to come. -/
def WCv (P : Program) (N : List Pend → ASt → Prop) (pend : List Pend) (prev : List (Hp × Nat)) (o : Oper) (lo hi : Nat) (s s' : ASt) : Prop :=
  allP (prev.drop lo) (fun h => Chk P o { s with hp := h.1, N := h.2 } (dav o s')) ∧ N (if prev.length < hi then (o, hi, dav o s') :: pend else pend) s'
def WC (P : Program) (ds : List (Option Nat)) (Q : ASt → Prop) : List (Oper × Option (Nat × Nat)) → List Pend → List (Hp × Nat) → ASt → Prop
  | [], _, _, s => Q s
  | (o, some (lo, hi)) :: r, pend, prev, s => match o.guard with
    | none => WOv P o s fun s' => WCv P (fun pd s' => WC P ds Q r pd prev s') pend prev o lo hi s s'
    | some (g, want) => match ds[g]? with
      | some (some t) => match s.get t with
        | .p (.val (.bool b)) => WG b want (WOv P o (s.put (some t) (.bool want)) fun s' => WCv P (fun pd s' => WC P ds Q r pd prev s') pend prev o lo hi (s.put (some t) (.bool want)) s') (WC P ds Q r pend prev ((s.put (some t) (.bool (!want))).put o.dst .junk))
        | _ => False
      | _ => False
  | (o, none) :: r, pend, prev, s => WOw P o s fun s' => allP pend (fun p => prev.length < p.2.1 → Chk P p.1 { s with hp := s'.hp, N := s'.N } p.2.2) ∧ WC P ds Q r pend (prev ++ [(s.hp, s.N)]) s'

theorem GOK.agree {P : Program} {ops : Array Oper} {o : Oper} {s s' : ASt} {av : AV} (h : GOK P ops o s av) (hh : s'.hp = s.hp) (hn : s'.n = s.n) (hN : s'.N = s.N) (hg : ∀ t ∈ o.looksAt ops, s'.get t = s.get t) : GOK P ops o s' av := by
  unfold GOK at *
  split
  · rename_i e; rw [e] at h; exact h.agree hh hn hN hg
  · rename_i g want e
    rw [e] at h
    obtain ⟨t, b, h1, h2, h3, h4⟩ := h
    exact ⟨t, b, h1, by rw [hg t (List.mem_append.2 (.inr (by simp [e, h1]))), h2], fun e => (h3 e).agree hh hn hN hg, h4⟩
theorem WEff.agree {P : Program} {ops : Array Oper} {o : Oper} {s s' : ASt} {h' : Hp × Nat} {av av' : AV} (h : WEff P ops o s h' av) (hh : s'.hp = s.hp) (hn : s'.n = s.n) (hN : s'.N = s.N) (hg : ∀ t ∈ o.looksAt ops, s'.get t = s.get t) (hav : ∀ d, o.dst = some d → av' = av) : WEff P ops o s' h' av' := fun s2 e1 e2 e3 e4 hd => by
  have := h s2 (e1.trans hh) (e2.trans hn) (e3.trans hN) (fun t ht => (e4 t ht).trans (hg t ht)) hd
  cases hd' : o.dst with
  | none => rw [hd'] at this; exact this
  | some d => rw [hd', ← hav d hd'] at this; exact this
abbrev El := List (Oper × Option (Nat × Nat))
def wct (el : El) : Nat := el.countP fun e => e.2.isNone
structure Out (P : Program) (ops : Array Oper) (el : El) (pend : List Pend) (prev : List (Hp × Nat)) (s fin : ASt) (hps : List (Hp × Nat)) : Prop where
  n : fin.n = s.n
  mem : ∃ tl, hps = prev ++ (s.hp, s.N) :: tl ∧ tl.length = wct el
  last : hps.getLast? = some (fin.hp, fin.N)
  out : ∀ t, (∀ e ∈ el, e.1.dst ≠ some t) → fin.get t = s.get t
  pnd : ∀ p ∈ pend, ∀ (j : Nat) (h : Hp × Nat), prev.length < j → j ≤ p.2.1 → hps[j]? = some h → OpVal P ops p.1 ⟨fin.fr, h.1, fin.n, h.2⟩ p.2.2
  val : ∀ (i : Nat) o lo hi, el[i]? = some (o, some (lo, hi)) → ∀ d, o.dst = some d → ∀ (j : Nat) (h : Hp × Nat), lo ≤ j → j ≤ hi → hps[j]? = some h → GOK P ops o ⟨fin.fr, h.1, fin.n, h.2⟩ (fin.get d)
  wr : ∀ (i : Nat) o, el[i]? = some (o, none) → ∃ h h' : Hp × Nat, hps[prev.length + wct (el.take i)]? = some h ∧ hps[prev.length + wct (el.take i) + 1]? = some h' ∧ WEff P ops o ⟨fin.fr, h.1, fin.n, h.2⟩ h' (dav o fin)
theorem Out.cons_val {P : Program} {ops : Array Oper} {r : El} {pend pend' : List Pend} {prev hps : List (Hp × Nat)} {s s' fin : ASt} {o : Oper} {lo hi d : Nat} {av : AV} (ho : Out P ops r pend' prev s' fin hps) (hd : o.dst = some d) (h1 : s'.hp = s.hp) (h2 : s'.n = s.n) (h3 : s'.N = s.N)
    (hg : ∀ t, s'.get t = if t = d then av else s.get t) (hsub : ∀ p ∈ pend, p ∈ pend') (uniq : ∀ e ∈ r, e.1.dst ≠ some d) (hv : ∀ (j : Nat) (h : Hp × Nat), lo ≤ j → j ≤ hi → hps[j]? = some h → GOK P ops o ⟨fin.fr, h.1, fin.n, h.2⟩ av) : Out P ops ((o, some (lo, hi)) :: r) pend prev s fin hps := by
  have hfd : fin.get d = av := by rw [ho.out d uniq, hg, if_pos rfl]
  refine ⟨ho.n.trans h2, ?_, ho.last, fun t ht => ?_, fun p hp => ho.pnd p (hsub p hp), fun i o' lo' hi' hi2 d' hd' j h hl hh hj => ?_, fun i o' hi2 => ?_⟩
  · obtain ⟨tl, e1, e2⟩ := ho.mem
    exact ⟨tl, by rw [e1, h1, h3], by rw [e2]; simp [wct, List.countP_cons]⟩
  · rw [ho.out t (fun e he => ht e (List.mem_cons.2 (.inr he))), hg, if_neg]
    exact fun e => ht _ (List.mem_cons.2 (.inl rfl)) (by rw [hd, e])
  · cases i with
    | zero =>
      cases hi2
      rw [hd] at hd'; cases hd'
      rw [hfd]; exact hv j h hl hh hj
    | succ i => exact ho.val i o' lo' hi' hi2 d' hd' j h hl hh hj
  · cases i with
    | zero => cases hi2
    | succ i =>
      have := ho.wr i o' hi2
      simpa [wct, List.countP_cons] using this
/-- What is asked of the list itself. -/
structure Fit (ops : Array Oper) (el : El) : Prop where
  late : ∀ (i j : Nat) a b, el[i]? = some a → el[j]? = some b → i ≤ j → ∀ t ∈ a.1.looksAt ops, b.1.dst ≠ some t
  uniq : ∀ (i j : Nat) a b d, el[i]? = some a → el[j]? = some b → i < j → a.1.dst = some d → b.1.dst ≠ some d
  dst : ∀ a ∈ el, a.2.isSome = true → ∃ d, a.1.dst = some d
theorem Fit.tail {ops : Array Oper} {a : Oper × Option (Nat × Nat)} {r : El} (h : Fit ops (a :: r)) : Fit ops r :=
  ⟨fun i j x y hx hy hij => h.late (i + 1) (j + 1) x y hx hy (by omega), fun i j x y d hx hy hij => h.uniq (i + 1) (j + 1) x y d hx hy (by omega), fun x hx => h.dst x (List.mem_cons.2 (.inr hx))⟩
theorem Fit.head {ops : Array Oper} {a : Oper × Option (Nat × Nat)} {r : El} (h : Fit ops (a :: r)) : (∀ t ∈ a.1.looksAt ops, a.1.dst ≠ some t ∧ ∀ e ∈ r, e.1.dst ≠ some t) ∧ ∀ d, a.1.dst = some d → ∀ e ∈ r, e.1.dst ≠ some d :=
  ⟨fun t ht => ⟨h.late 0 0 a a rfl rfl (Nat.le_refl _) t ht, fun e he => by
    obtain ⟨j, hj⟩ := List.mem_iff_getElem?.1 he
    exact h.late 0 (j + 1) a e rfl hj (Nat.zero_le _) t ht⟩, fun d hd e he => by
    obtain ⟨j, hj⟩ := List.mem_iff_getElem?.1 he
    exact h.uniq 0 (j + 1) a e d rfl hj (by omega) hd⟩
theorem WC.out {P : Program} {ops : Array Oper} {Q : ASt → Prop} : ∀ (el : El) (pend : List Pend) (prev : List (Hp × Nat)) (s : ASt), Fit ops el → WC P (ops.toList.map (·.dst)) Q el pend prev s → (∀ p ∈ pend, (∃ d, p.1.dst = some d) ∧ ∀ t ∈ p.1.looksAt ops, ∀ e ∈ el, e.1.dst ≠ some t) →
    (∀ a ∈ el, a.2 = none → a.1.guard = none) → ∃ fin hps, Q fin ∧ Out P ops el pend prev s fin hps
  | [], pend, prev, s, hf, h, hp, hgd => ⟨s, prev ++ [(s.hp, s.N)], h, rfl, ⟨[], rfl, rfl⟩, by simp, fun _ _ => rfl, fun p _ j h hj _ he => by
      have := (List.getElem?_eq_some_iff.1 he).1
      simp at this; omega, fun i o lo hi hi2 => (by cases hi2), fun i o hi2 => (by cases hi2)⟩
  | (o, some (lo, hi)) :: r, pend, prev, s, hf, h, hp, hgd => by
    obtain ⟨d, hd⟩ : ∃ d, o.dst = some d := hf.dst _ (List.mem_cons.2 (.inl rfl)) rfl
    obtain ⟨hlate, huniq⟩ := hf.head
    have hr := hf.tail
    have hgd' : ∀ a ∈ r, a.2 = none → a.1.guard = none := fun a ha => hgd a (List.mem_cons.2 (.inr ha))
    have hpr : ∀ p ∈ pend, (∃ d, p.1.dst = some d) ∧ ∀ t ∈ p.1.looksAt ops, ∀ e ∈ r, e.1.dst ≠ some t := fun p hp' => ⟨(hp p hp').1, fun t ht e he => (hp p hp').2 t ht e (List.mem_cons.2 (.inr he))⟩
    -- the walk's word, for a state that says what s says
    have key : ∀ (s1 : ASt), Sq s s1 → (∀ s2 : ASt, ∀ av, (∀ t ∈ o.looksAt ops, s2.get t = s1.get t) → OpVal P ops o s2 av → GOK P ops o s2 av) →
        (WOv P o s1 fun s' => WCv P (fun pd s' => WC P (ops.toList.map (·.dst)) Q r pd prev s') pend prev o lo hi s1 s') → ∃ fin hps, Q fin ∧ Out P ops ((o, some (lo, hi)) :: r) pend prev s fin hps := by
      intro s1 hsq hgk hw
      obtain ⟨av, hov, hcv, hwc⟩ := WOv.val (ops := ops) hw
      have hdav : dav o (s1.put o.dst av) = av := by simp only [dav, hd]; rw [ASt.get_put, if_pos rfl]
      rw [hdav] at hcv hwc
      rw [hd] at hwc
      have hsub : ∀ p ∈ pend, p ∈ (if prev.length < hi then (o, hi, av) :: pend else pend) := fun p hp' => by
        split
        · exact List.mem_cons.2 (.inr hp')
        · exact hp'
      obtain ⟨fin, hps, hq, ho⟩ := WC.out r _ prev _ hr hwc (fun p hp' => by
        split at hp'
        · rcases List.mem_cons.1 hp' with rfl | hp'
          · exact ⟨⟨d, hd⟩, fun t ht => (hlate t ht).2⟩
          · exact hpr p hp'
        · exact hpr p hp') hgd'
      have hlook : ∀ t ∈ o.looksAt ops, fin.get t = s1.get t := fun t ht => by
        rw [ho.out t (hlate t ht).2, ASt.get_put, if_neg]
        exact fun e => (hlate t ht).1 (by rw [hd, e])
      refine ⟨fin, hps, hq, ho.cons_val hd hsq.hp hsq.n hsq.N (av := av) (fun t => ?_) hsub (huniq d hd) (fun j h hl hh hj => ?_)⟩
      · rw [ASt.get_put]
        split
        · rfl
        · exact hsq.get t
      · refine hgk _ _ hlook ?_
        by_cases h1 : j < prev.length
        · obtain ⟨tl, e1, _⟩ := ho.mem
          rw [e1, List.getElem?_append_left h1] at hj
          have hm : h ∈ prev.drop lo := List.mem_iff_getElem?.2 ⟨j - lo, by rw [List.getElem?_drop, show lo + (j - lo) = j by omega]; exact hj⟩
          exact ((allP_mem hcv h hm).val hd).agree rfl ho.n rfl hlook
        · by_cases h2 : j = prev.length
          · subst h2
            obtain ⟨tl, e1, _⟩ := ho.mem
            rw [e1, List.getElem?_append_right (Nat.le_refl _), Nat.sub_self] at hj
            cases hj
            exact hov.agree rfl ho.n rfl hlook
          · exact ho.pnd (o, hi, av) (by rw [if_pos (by omega)]; exact List.mem_cons.2 (.inl rfl)) j h (by omega) hh hj
    unfold WC at h
    cases hg : o.guard with
    | none =>
      rw [hg] at h
      exact key s (Sq.refl s) (fun s2 av _ h => by unfold GOK; rw [hg]; exact h) h
    | some gw =>
      obtain ⟨g, want⟩ := gw
      rw [hg] at h
      simp only at h
      split at h
      · rename_i t ht
        have ht' : (ops[g]?).bind (·.dst) = some t := by
          simp only [List.getElem?_map, Option.map_eq_some_iff, Array.getElem?_toList] at ht
          obtain ⟨o', h1, h2⟩ := ht
          rw [h1]; exact h2
        have htl : t ∈ o.looksAt ops := List.mem_append.2 (.inr (by simp [hg, ht']))
        split at h
        · rename_i b hb
          by_cases hbw : b = want
          · have hsq := Sq.same (s := s) (t := t) (x := .bool want) (by rw [hb, hbw])
            refine key _ hsq (fun s2 av hl ho => ?_) (h.1 hbw)
            unfold GOK; rw [hg]
            exact ⟨t, want, ht', by rw [hl t htl, hsq.get, hb, hbw], fun _ => ho, fun e => absurd rfl e⟩
          · have hbn : b = (!want) := by cases b <;> cases want <;> simp_all
            have hsq := Sq.same (s := s) (t := t) (x := .bool (!want)) (by rw [hb, hbn])
            have hwc := h.2 hbn
            rw [hd] at hwc
            obtain ⟨fin, hps, hq, ho⟩ := WC.out r pend prev _ hr hwc hpr hgd'
            have hlook : ∀ t ∈ o.looksAt ops, fin.get t = s.get t := fun t ht => by
              rw [ho.out t (hlate t ht).2, ASt.get_put, if_neg (fun e => (hlate t ht).1 (by rw [hd, e])), hsq.get]
            refine ⟨fin, hps, hq, ho.cons_val hd hsq.hp hsq.n hsq.N (av := .junk) (fun k => ?_) (fun _ h => h) (huniq d hd) (fun j h hl hh hj => ?_)⟩
            · rw [ASt.get_put]
              split
              · rfl
              · exact hsq.get k
            · unfold GOK; rw [hg]
              exact ⟨t, b, ht', by show fin.get t = _; rw [hlook t htl, hb], fun e => absurd e hbw, fun _ => rfl⟩
        · exact h.elim
      · exact h.elim
  | (o, none) :: r, pend, prev, s, hf, h, hp, hgd => by
    obtain ⟨hlate, huniq⟩ := hf.head
    have hr := hf.tail
    unfold WC at h
    obtain ⟨h', av, heff, hpd, hwc⟩ := WOw.eff (ops := ops) h
    obtain ⟨fin, hps, hq, ho⟩ := WC.out r pend (prev ++ [(s.hp, s.N)]) _ hr hwc (fun p hp' => ⟨(hp p hp').1, fun t ht e he => (hp p hp').2 t ht e (List.mem_cons.2 (.inr he))⟩) (fun a ha => hgd a (List.mem_cons.2 (.inr ha)))
    have hput : ∀ (s : ASt) (d : Option Nat) (x : AV), (s.put d x).hp = s.hp ∧ (s.put d x).n = s.n ∧ (s.put d x).N = s.N := fun s d x => by cases d <;> exact ⟨rfl, rfl, rfl⟩
    have hput2 : ∀ (s : ASt) (t : Nat), o.dst ≠ some t → (s.put o.dst av).get t = s.get t := fun s t ht => by
      cases hd : o.dst with
      | none => rfl
      | some d => rw [ASt.get_put, if_neg (fun e => ht (by rw [hd, e]))]
    obtain ⟨tl, e1, e2⟩ := ho.mem
    rw [(hput _ _ _).1, (hput _ _ _).2.2] at e1
    have hn : fin.n = s.n := ho.n.trans (hput _ _ _).2.1
    have hlook : ∀ t, (o.dst ≠ some t ∧ ∀ e ∈ r, e.1.dst ≠ some t) → fin.get t = s.get t := fun t ht => by
      rw [ho.out t ht.2, hput2 _ t ht.1]; rfl
    have e1' : hps = prev ++ (s.hp, s.N) :: (h'.1, h'.2) :: tl := by rw [e1]; simp
    refine ⟨fin, hps, hq, hn, ⟨_, e1', by simp [e2, wct, List.countP_cons]⟩, ho.last, fun t ht => hlook t ⟨ht _ (List.mem_cons.2 (.inl rfl)), fun e he => ht e (List.mem_cons.2 (.inr he))⟩, fun p hp' j h hj hh hjs => ?_, fun i o' lo hi hi2 => ?_, fun i o' hi2 => ?_⟩
    · by_cases h2 : j = prev.length + 1
      · subst h2
        rw [e1', List.getElem?_append_right (by omega), show prev.length + 1 - prev.length = 1 by omega] at hjs
        cases hjs
        obtain ⟨⟨d, hd⟩, hl⟩ := hp p hp'
        have hc := (allP_mem hpd p hp' (by omega)).val (ops := ops) hd
        refine hc.agree ?_ hn ?_ (fun t ht => hlook t ⟨hl t ht _ (List.mem_cons.2 (.inl rfl)), fun e he => hl t ht e (List.mem_cons.2 (.inr he))⟩)
        · exact (hput { s with hp := h'.1, N := h'.2 } o.dst av).1.symm
        · exact (hput { s with hp := h'.1, N := h'.2 } o.dst av).2.2.symm
      · exact ho.pnd p hp' j h (by simp; omega) hh hjs
    · cases i with
      | zero => cases hi2
      | succ i => exact ho.val i o' lo hi hi2
    · cases i with
      | zero =>
        cases hi2
        refine ⟨(s.hp, s.N), h', by rw [e1']; simp [wct], by rw [e1']; simp [wct], heff.agree rfl hn rfl (fun t ht => hlook t (hlate t ht)) (fun d hd => ?_)⟩
        simp only [dav, hd]
        rw [ho.out d (huniq d hd), hd, ASt.get_put, if_pos rfl]
      | succ i =>
        have := ho.wr i o' hi2
        simpa [wct, List.countP_cons, Nat.add_assoc, Nat.add_comm, Nat.add_left_comm] using this
end Go.Proofs.Ytbhkcejjehgfcaa
