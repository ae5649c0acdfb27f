/- Clear of the given memory. -/
import Derived.Test.YtioajmhfofmdoaaKs
import Derived.Test.YtioajmhfofmdoaaSb
import Derived.Shelf.RegionOpen
namespace Go.Proofs.Ytioajmhfofmdoaa
open Go.RowKit Go.Sort Go.Maps Go.Shelf

attribute [local go_sem] Oper.semAt_some

def clrD (ob : Int) (D0 : DataW Nat) (xs : List KeyT) : DataW Nat := xs.foldl (fun D x => if x.1.1 = ob then D.del (keyL' x) else D) D0
theorem clrD_snoc (ob : Int) (D0 : DataW Nat) (xs : List KeyT) (x : KeyT) : clrD ob D0 (xs ++ [x]) = if x.1.1 = ob then (clrD ob D0 xs).del (keyL' x) else clrD ob D0 xs := by simp [clrD]
def clrM (M : Int → Int → Wd) (ob : Int) : Int → Int → Wd := fun o f => if o = ob then wz else M o f

theorem kpC_t {b : Nat} {x : KeyT} {A B C : World} (h : KpC b x A B) (k : KpC b x B C) : KpC b x A C := fun r nn D left cnt hr hl => by
  obtain ⟨D1, c1, h1, l1⟩ := h r nn D left cnt hr hl
  obtain ⟨D2, c2, h2, l2⟩ := k r nn D1 left c1 h1 hl
  exact ⟨D2, c2, h2, by omega⟩
theorem kpC_b {b n0 : Nat} (hb : b < n0) (x : KeyT) (W : World) (l : Nat) (o o' : Obj) (hl : n0 ≤ l) (h : W.heap[l]? = some o) (_ : o.isCells = false) (hw : o.isWalk = false) : KpC b x W (W.putObj l o') := fun r nn D left cnt hr _ => by
  refine ⟨D, cnt, hr.kept (grownBy_putObj' W l o') (by simp; omega) (fun e => ?_), Nat.le_refl _⟩
  obtain ⟨o2, h2, h3⟩ := hr.iter_walk
  cases e
  rw [h] at h2
  cases h2
  rw [hw] at h3
  cases h3
theorem kpC_g {b : Nat} {x : KeyT} {W W' : World} (h : W.grownBy W' none) : KpC b x W W' := fun r nn D left cnt hr _ => ⟨D, cnt, hr.kept h (by simp) (by simp), Nat.le_refl _⟩

theorem left_same {left : Lit → Bool} {kl : Lit} (h : left kl = false) : (fun z : Lit => left z && !z.sameKey kl) = left := by
  funext z
  cases hs : z.sameKey kl
  · simp
  · rw [WideAt.sameKey_eq hs, h]; rfl
theorem wpListIn_delete_run {F : Fence} {n : Nat} {P : Program} (w : World) {ops : Array Oper} {rest : List Oper} {o : Oper} {a : Act} {Q : Exit → Act → World → Prop}
    (hg : o.guard = none) (m x : Operand) (t k : TypeId) (hop : o.op = Op.call { callee := Callee.builtin Builtin.delete, args := #[m, x], argTypes := #[t, k] })
    (e : TypeId) (K : Keyed P k) (ht : P.underlying t = some (.map k e)) (R : Value → Option (DataW Nat × List MemPlace)) (b nn : Nat) (D : DataW Nat)
    (hm : a.eval m = .map (some b)) (hown : w.ownsMap P k R b nn D) (key : Value) (kl : Lit) (hx : a.eval x = key) (hkey : keyOf P k key = some kl)
    (hK : ∀ w', w'.ownsMap P k R b nn (D.del kl) → w.mapTurned w' b → (∀ r n2 D2 left cnt, w.ranges P k R b r n2 D2 left cnt → left kl = false → ∃ D' cnt', w'.ranges P k R b r n2 D' left cnt' ∧ cnt' ≤ cnt) → wpListIn F n P ops Q rest (a.put o.dst (.tuple #[])) w') :
    wpListIn F n P ops Q (o :: rest) a w := by
  refine wpListIn_plain hg fun K' hK' => ?_
  obtain ⟨w', hrun, r1, r2⟩ := hown.drop K ht hkey o.type
  unfold Oper.wpIn
  refine ⟨?_, ?_⟩
  · simp [Oper.about, hop, resolve, Target.leads, Sem.run_pure]
  · rw [Oper.semAt_plain F _ _ (by rw [hop]; intro c hc'; cases hc')]
    simp [execOp, hop, resolve, invoke, builtin, hm, hx, hrun, Result.andThen]
    refine hK' _ _ (hK w' r1 r2 fun r n2 D2 left cnt hr hl => ?_)
    obtain ⟨w2, cnt', hrun2, q1, q2, _⟩ := hr.drop K ht hkey o.type
    rw [hrun] at hrun2
    cases hrun2
    rw [left_same hl] at q1
    exact ⟨_, cnt', q1, q2⟩

set_option maxRecDepth 100000 in
set_option maxHeartbeats 2000000 in
theorem clear_in (F : Fence) (n : Nat) (h18 : F.fn 18) (h26 : F.fn 26) (h34 : F.fn 34) (hro : F.round = none) (hn : 3 ≤ n)
    (w : World) (bm bp tk nn : Nat) (D0 : DataW Nat) (ob : Int) (hcell : w.heap[bm]? = some (.cells #[.map (some bp), .pointer (some ⟨tk, 0, none⟩)] 62 (0, 0))) (hown : w.ownsMap Try.prog 67 pgR bp nn D0) :
    CallsIn F n Try.prog 18 #[.pointer (some ⟨bm, 0, none⟩), .int .i64 ob] w fun e W' => e = .returned (.tuple #[]) ∧ ∃ xs, AllCame D0 xs ∧ W'.ownsMap Try.prog 67 pgR bp nn (clrD ob D0 xs) ∧ w.grownBy W' (some bp) := by
  have h1 : 1 ≤ n := by omega
  have c0 := row_cells hcell 0
  simp at c0
  have o0 : Old bm w := Old.of_cell c0
  refine callsIn_of_wp_marks Try.func18 rfl h18 ?_ hro
  simp only [Try.ntmps18, List.size_toArray, List.length_cons, List.length_nil, Nat.reduceAdd, Nat.reduceSub, Array.replicate_succ, Array.replicate_zero, List.push_toArray, List.append_toArray, List.nil_append, List.cons_append]
  gi_wp2_with (gi_at_call 26; refine (keys_in F (n - 1) h26 hro _ _).mono ?_; rintro e w' ⟨rfl, rfl⟩)
  have hg0 : w.grownBy (((w.alloc (.cells #[.pointer (some ⟨bm, 0, none⟩)] 26)).alloc (.cells #[.int .i64 ob] 3)).alloc (.cells #[.map (some bp)] 59)) none :=
    ⟨rfl, rfl, rfl, by simp; omega, fun k hk _ => by rw [heap_alloc_old _ _ (by simp; omega), heap_alloc_old _ _ (by simp; omega), heap_alloc_old _ _ hk]⟩
  have b0 : Boxed (((w.alloc (.cells #[.pointer (some ⟨bm, 0, none⟩)] 26)).alloc (.cells #[.int .i64 ob] 3)).alloc (.cells #[.map (some bp)] 59)) w.heap.size 26 (.pointer (some ⟨bm, 0, none⟩)) := ((Boxed.new w _ _).alloc _).alloc _
  have b1 : Boxed (((w.alloc (.cells #[.pointer (some ⟨bm, 0, none⟩)] 26)).alloc (.cells #[.int .i64 ob] 3)).alloc (.cells #[.map (some bp)] 59)) (w.heap.size + 1) 3 (.int .i64 ob) := by
    have := (Boxed.new (w.alloc (.cells #[.pointer (some ⟨bm, 0, none⟩)] 26)) 3 (.int .i64 ob)).alloc (.cells #[.map (some bp)] 59)
    rwa [World.size_alloc] at this
  have b2 : Boxed (((w.alloc (.cells #[.pointer (some ⟨bm, 0, none⟩)] 26)).alloc (.cells #[.int .i64 ob] 3)).alloc (.cells #[.map (some bp)] 59)) (w.heap.size + 1 + 1) 59 (.map (some bp)) := by
    have := Boxed.new ((w.alloc (.cells #[.pointer (some ⟨bm, 0, none⟩)] 26)).alloc (.cells #[.int .i64 ob] 3)) 59 (.map (some bp))
    rwa [World.size_alloc, World.size_alloc] at this
  have hbpw := hown.lt
  have hown0 := hown.kept hg0 (by simp)
  generalize (((w.alloc (.cells #[.pointer (some ⟨bm, 0, none⟩)] 26)).alloc (.cells #[.int .i64 ob] 3)).alloc (.cells #[.map (some bp)] 59)) = w0 at *
  have hsz := hg0.size
  have hbm := o0.lt
  have hbpm : bm ≠ bp := fun e => by
    obtain ⟨es, ck, hb, _⟩ := hown
    rw [e, hb] at hcell; cases hcell
  refine wpIn_rangeFunc_x hro h1 (gf := 34) (lb := #[.pointer (some ⟨w.heap.size + 1 + 1, 0, none⟩)]) rfl h34 (enters_of Try.func34 (by kernel_rfl) rfl)
    (encs := fun x : KeyT => #[keyV x]) (Kp := KpC bp) (S := AllCame D0) ?seq kpC_t (kpC_b (by omega)) (fun _ => rfl)
    (fun pre W => w0.grownBy W (some bp) ∧ W.ownsMap Try.prog 67 pgR bp nn (clrD ob D0 pre)) ?own ⟨⟨rfl, rfl, rfl, Nat.le_refl _, fun _ _ _ => rfl⟩, hown0⟩
    (fun x a' W => ∃ Bx, w0.heap.size ≤ Bx ∧ W.heap[Bx]? = some (.cells #[.int .i64 x.1.1, .int .i64 x.1.2] 67 (0, 0)) ∧ a' = { tmps := #[.pointer (some ⟨bm, 0, none⟩), .int .i64 ob, .pointer (some ⟨w.heap.size, 0, none⟩), .pointer (some ⟨w.heap.size + 1, 0, none⟩), .pointer (some ⟨Bx, 0, none⟩), .pointer (some ⟨bm, 0, none⟩), .bool false, .pointer (some ⟨bm, 0, none⟩), .pointer (some ⟨bm, 0, none⟩), .pointer (some ⟨bm, 0, none⟩), .map (some bp), .func (.func 34) #[] #[.pointer (some ⟨w.heap.size + 1 + 1, 0, none⟩)], keyV x, undef, undef, undef, undef, undef, undef, undef, undef, undef], defers := [] }) ?ax ?assign ?body ?done
  case seq =>
    intro l J W hW hJ hY h0
    have hm : W.cell? ⟨w.heap.size + 1 + 1, 0, none⟩ = some (.map (some bp)) := (hW.cell (p := ⟨_, 0, none⟩) b2.lt).trans b2.cell
    exact keys1_in F (n - 1) h34 hro (by omega) l (w.heap.size + 1 + 1) bp nn D0 J W hJ hY hm (hown0.kept (row := none) ⟨hW.os, hW.tape, hW.output, hW.size, fun k hk _ => hW.block k hk⟩ (by simp)) h0
  case own =>
    rintro s A B' row ⟨hs1, hs2⟩ hg hr
    exact ⟨hs1.andThen hg (fun j e => .inl (hr j e).1), hs2.kept hg (fun e => by have := (hr bp e.symm).1; omega)⟩
  case ax =>
    rintro x a' _ A B' row ⟨Bx, hBx, hc, rfl⟩ hg hr
    refine ⟨Bx, hBx, (hg.block Bx (Array.getElem?_eq_some_iff.1 hc).1 (fun e => ?_)).trans hc, rfl⟩
    obtain ⟨_, o, ho, hcl⟩ := hr Bx e.symm
    rw [hc] at ho; cases ho; cases hcl
  case assign =>
    rintro l pre x W K ⟨hi1, hi2⟩ hK
    gi_wp2
    exact hK _ _ ((KeepsOthers.alloc _ _).from _) (kpC_g (World.grownBy_alloc _ _ none)) ⟨hi1.andThen (World.grownBy_alloc _ _ none) (by simp), hi2.alloc _⟩ ⟨W.heap.size, hi1.size, heap_alloc_new _ _, rfl⟩
  case body =>
    rintro l pre x a' W hl ⟨r, hr⟩ ⟨hi1, hi2⟩ ⟨Bx, hBx, hBc, rfl⟩
    have hold : ∀ a : Addr, a.block < w0.heap.size → a.block ≠ bp → W.cell? a = w0.cell? a := fun a h1 h2 => World.cell?_of_block (hi1.block _ h1 (by simpa using h2))
    have e0 : W.cell? ⟨w.heap.size, 0, none⟩ = some (.pointer (some ⟨bm, 0, none⟩)) := (hold _ (by have := b0.lt; simpa using this) (by simp; omega)).trans b0.cell
    have e1 : W.cell? ⟨w.heap.size + 1, 0, none⟩ = some (.int .i64 ob) := (hold _ (by have := b1.lt; simpa using this) (by simp; omega)).trans b1.cell
    have e2 : W.cell? ⟨bm, 0, none⟩ = some (.map (some bp)) := (hold _ (by simp; omega) (by simpa using hbpm)).trans ((World.cell?_of_block (hg0.block bm hbm (by simp))).trans c0)
    have f0 := row_cells hBc 0
    have f1 := row_cells hBc 1
    simp at f0 f1
    obtain ⟨⟨x1, x2⟩, hx⟩ := x
    simp only at f0 f1
    by_cases hob : x1 = ob
    · subst hob
      gi_wp2
      have hkx : keyOf Try.prog 67 (.agg #[.int .i64 x1, .int .i64 x2]) = some (keyL' ⟨(x1, x2), hx⟩) := key_mk ⟨(x1, x2), hx⟩
      obtain ⟨w', hrun, ho', hturn⟩ := hi2.drew.drop keyed mapU hkx 0
      have hmix : Try.prog.follows .mixedOrders = true := by kernel_rfl
      have hgr : W.grownBy w' (some bp) := ⟨hturn.grown.os, hturn.grown.tape, hturn.grown.output, hturn.grown.size, hturn.grown.block⟩
      have hkp : KpC bp ⟨(x1, x2), hx⟩ W w' := fun r nn D left cnt hr hl => by
        obtain ⟨w2, cnt', hrun2, q1, q2, _⟩ := (show W.drew.ranges Try.prog 67 pgR bp r nn D left cnt from hr).drop keyed mapU hkx 0
        rw [hrun] at hrun2
        cases hrun2
        rw [left_same hl] at q1
        exact ⟨_, cnt', q1, q2⟩
      have hend : goesOn w0.heap.size (KpC bp ⟨(x1, x2), hx⟩) (fun pre W => w0.grownBy W (some bp) ∧ W.ownsMap Try.prog 67 pgR bp nn (clrD x1 D0 pre)) (pre ++ [⟨(x1, x2), hx⟩]) W .normal { tmps := #[], defers := [] } w' :=
        ⟨KeepsFrom.of_grownBy hgr (fun j e => by cases e; omega), hkp, hi1.andThen hgr (fun j e => .inr e), by rw [clrD_snoc, if_pos rfl]; exact ho'⟩
      gi_region_with_o (fail)
      all_goals exact hend
    · have hne : (x1 == ob) = false := by simpa using hob
      gi_wp2
      exact ⟨KeepsFrom.refl _ _, kpC_g ⟨rfl, rfl, rfl, Nat.le_refl _, fun _ _ _ => rfl⟩, hi1, by rw [clrD_snoc, if_neg hob]; exact hi2⟩
  case done =>
    rintro D ys W hD hS ⟨hi1, hi2⟩ hK
    gi_wp2
    refine ⟨by simp, .inl ⟨_, _, rfl, run_takeDeferred hK, ?_⟩⟩
    refine ⟨_, results_none rfl _ _ _, rfl, ys, hS, hi2.kept (grownBy_putObj' _ D _) (by simp; omega), (hg0.but _).andThen (hi1.andThen (grownBy_putObj' _ D _) (fun j e => by cases e; exact .inl hD)) (fun j e => .inr e)⟩

open Classical in
theorem clr_at (ob : Int) (kl : Lit) : ∀ (xs : List KeyT) (D : DataW Nat), (clrD ob D xs).atKey kl .nil = if ∃ x ∈ xs, x.1.1 = ob ∧ keyL' x = kl then .nil else D.atKey kl .nil
  | [], D => by simp [clrD]
  | x :: xs, D => by
    have ih := clr_at ob kl xs (if x.1.1 = ob then D.del (keyL' x) else D)
    rw [show clrD ob D (x :: xs) = clrD ob (if x.1.1 = ob then D.del (keyL' x) else D) xs from rfl, ih]
    by_cases h1 : ∃ y ∈ xs, y.1.1 = ob ∧ keyL' y = kl
    · obtain ⟨y, hy, e⟩ := h1
      rw [if_pos ⟨y, hy, e⟩, if_pos ⟨y, List.mem_cons_of_mem _ hy, e⟩]
    · rw [if_neg h1]
      have hno : ¬ (x.1.1 = ob ∧ keyL' x = kl) → ¬ ∃ y ∈ x :: xs, y.1.1 = ob ∧ keyL' y = kl := fun h2 => by
        rintro ⟨y, hy, e⟩
        rcases List.mem_cons.1 hy with rfl | hy'
        · exact h2 e
        · exact h1 ⟨y, hy', e⟩
      by_cases hob : x.1.1 = ob
      · rw [if_pos hob]
        by_cases hk : keyL' x = kl
        · rw [if_pos ⟨x, List.mem_cons_self .., hob, hk⟩, hk]
          exact atKey_del_same _
        · rw [if_neg (hno fun h => hk h.2)]
          exact atKey_del_other (fun e => hk e.symm) _
      · rw [if_neg hob, if_neg (hno fun h => hob h.1)]

theorem clr_has {ob : Int} {kl : Lit} : ∀ {xs : List KeyT} {D : DataW Nat}, Maps.has (clrD ob D xs) kl = true → Maps.has D kl = true
  | [], D, h => h
  | x :: xs, D, h => by
    have := clr_has (xs := xs) (D := if x.1.1 = ob then D.del (keyL' x) else D) h
    split at this
    · by_cases e : kl = keyL' x
      · subst e; rw [has_del_same] at this; cases this
      · rwa [has_del_other e] at this
    · exact this
theorem clr_has_no {ob : Int} {kl : Lit} : ∀ {xs : List KeyT} {D : DataW Nat}, (∃ x ∈ xs, x.1.1 = ob ∧ keyL' x = kl) → Maps.has (clrD ob D xs) kl = false
  | [], D, h => by obtain ⟨x, hx, _⟩ := h; cases hx
  | x :: xs, D, h => by
    cases hh : Maps.has (clrD ob D (x :: xs)) kl
    · rfl
    · by_cases h1 : ∃ y ∈ xs, y.1.1 = ob ∧ keyL' y = kl
      · have := clr_has_no (D := if x.1.1 = ob then D.del (keyL' x) else D) h1
        rw [show clrD ob D (x :: xs) = clrD ob (if x.1.1 = ob then D.del (keyL' x) else D) xs from rfl, this] at hh
        exact hh.symm
      · obtain ⟨y, hy, e1, e2⟩ := h
        rcases List.mem_cons.1 hy with rfl | hy'
        · have := clr_has (xs := xs) (D := if y.1.1 = ob then D.del (keyL' y) else D) hh
          rw [if_pos e1, ← e2, has_del_same] at this
          cases this
        · exact absurd ⟨y, hy', e1, e2⟩ h1

theorem clear_done {T : Nat → Prop} {B : Nat} {w wr : World} {bm bp tk n : Nat} {D : DataW Nat} {M : Int → Int → Wd} {ob : Int} {xs : List KeyT} (h : MemAt T B w bm bp tk n D M) (hA : AllCame D xs) (ho : wr.ownsMap Try.prog 67 pgR bp n (clrD ob D xs)) (hg : w.grownBy wr (some bp)) :
    MemAt T B wr bm bp tk n (clrD ob D xs) (clrM M ob) ∧ Fr tk bp w wr ∧ Below B w wr := by
  obtain ⟨m1, m2, m3, m4, m5⟩ := h.mine
  have keep : ∀ k, k < w.heap.size → k ≠ bp → wr.heap[k]? = w.heap[k]? := fun k hk h1 => hg.block k hk (by simpa using h1)
  have hat : ∀ (o : Int) (p : Nat), Pg o p → (clrD ob D xs).atKey (kyl o p) .nil = if o = ob then .nil else D.atKey (kyl o p) .nil := fun o p hp => by
    rw [clr_at]
    by_cases hob : o = ob
    · rw [if_pos hob]
      split
      · rfl
      · rename_i hno
        cases hh : Maps.has D (kyl o p)
        · exact atKey_of_not_has hh _
        · obtain ⟨x, hx, e⟩ := hA _ hh
          have := kyl_inj x.2.1 x.2.2 hp.wf.1 hp.wf.2 e
          exact absurd ⟨x, hx, by rw [this.1, hob], e⟩ hno
    · rw [if_neg hob, if_neg]
      rintro ⟨x, hx, e1, e⟩
      have := kyl_inj x.2.1 x.2.2 hp.wf.1 hp.wf.2 e
      exact hob (by rw [← this.1, e1])
  refine ⟨⟨?_, ho, ?_, ?_, ?_, h.tok, ?_, ?_⟩, ?_, ?_⟩
  · rw [keep bm (Array.getElem?_eq_some_iff.1 h.cell).1 m4]; exact h.cell
  · intro o p hp
    rw [hat o p hp]
    by_cases hob : o = ob
    · rw [if_pos hob]
      exact .inl ⟨rfl, fun i _ => by simp [clrM, hob]⟩
    · rw [if_neg hob]
      rcases h.page o p hp with ⟨h1, h2⟩ | ⟨b, t, h1, h2, h3, h4⟩
      · exact .inl ⟨h1, fun i hi => by simpa [clrM, hob] using h2 i hi⟩
      · refine .inr ⟨b, t, h1, h2, ?_, by simpa [clrM, hob] using h4⟩
        rw [keep b (Array.getElem?_eq_some_iff.1 h3).1 (m5 o p b hp h1).2.2]
        simpa [clrM, hob] using h3
  · intro o o' p p' b hp hp' h1 h2
    rw [hat o p hp] at h1
    rw [hat o' p' hp'] at h2
    split at h1
    · cases h1
    · split at h2
      · cases h2
      · exact h.apart o o' p p' b hp hp' h1 h2
  · intro kl hk
    obtain ⟨o, p, b, hp, rfl, hb⟩ := h.keys kl (clr_has hk)
    refine ⟨o, p, b, hp, rfl, ?_⟩
    rw [hat o p hp, if_neg]
    · exact hb
    · rintro rfl
      obtain ⟨x, hx, e⟩ := hA _ (clr_has hk)
      have := kyl_inj x.2.1 x.2.2 hp.wf.1 hp.wf.2 e
      rw [clr_has_no ⟨x, hx, this.1, e⟩] at hk
      cases hk
  · intro t ht
    obtain ⟨c, hc⟩ := h.toks t ht
    refine ⟨c, (keep t (Array.getElem?_eq_some_iff.1 hc).1 (fun e => ?_)).trans hc⟩
    obtain ⟨es, ck, hb2, _⟩ := h.own
    rw [e, hb2] at hc; cases hc
  · refine ⟨m1, m2, m3, m4, fun o p b hp h1 => ?_⟩
    rw [hat o p hp] at h1
    split at h1
    · cases h1
    · exact m5 o p b hp h1
  · exact ⟨hg.os, hg.tape, hg.output, hg.size, fun k hk h1 _ => keep k hk h1⟩
  · exact ⟨hg.os, hg.tape, hg.output, hg.size, fun k hk => keep k (by have := h.own.lt; omega) (by omega)⟩

theorem clearL_any {T : Nat → Prop} {B : Nat} {w : World} {bm bp tk n : Nat} {D : DataW Nat} {M : Int → Int → Wd} (h : MemAt T B w bm bp tk n D M) (ob : Int) :
    Calls Try.prog 18 #[.pointer (some ⟨bm, 0, none⟩), .int .i64 ob] w fun e w' => e = .returned (.tuple #[]) ∧ ∃ D', MemAt T B w' bm bp tk n D' (clrM M ob) ∧ Fr tk bp w w' ∧ Below B w w' := by
  refine ((callsIn_wide (n := 3)).1 (clear_in Fence.wide 3 trivial trivial trivial rfl (by omega) w bm bp tk n D ob h.cell h.own)).mono ?_
  rintro e w' ⟨rfl, xs, hA, ho, hg⟩
  exact ⟨rfl, _, clear_done h hA ho hg⟩

end Go.Proofs.Ytioajmhfofmdoaa
