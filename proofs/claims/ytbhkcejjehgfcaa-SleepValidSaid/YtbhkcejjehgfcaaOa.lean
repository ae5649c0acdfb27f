/- Threads as they come in. -/
import Derived.Test.YtbhkcejjehgfcaaDa
import Derived.Test.YtbhkcejjehgfcaaLaw
import Derived.OpenShut
namespace Go.Proofs.Ytbhkcejjehgfcaa
open Go.RowKit Go.Sort Go.ChangeShapes Go.WideShapes Go.ChangeAt

set_option maxRecDepth 100000
variable {H : Type} {enc : TypeId × Value → H} {W : World} {base : Nat} {spare : Nat → Bool} {held : Bool}
def PRs (W : World) (ps : List PV) (cs : List Value) : Prop := cs.length = ps.length ∧ ∀ (j : Nat) p v, ps[j]? = some p → cs[j]? = some v → PR (fun _ => False) W p v
theorem PRs.nil : PRs W [] [] := ⟨rfl, fun j p v h => by simp at h⟩
theorem PRs.cons {p : PV} {v : Value} {ps : List PV} {cs : List Value} (h : PR (fun _ => False) W p v) (k : PRs W ps cs) : PRs W (p :: ps) (v :: cs) := ⟨by simp [k.1], fun j p' v' h1 h2 => by
  cases j with
  | zero => simp at h1 h2; subst h1; subst h2; exact h
  | succ j => exact k.2 j p' v' (by simpa using h1) (by simpa using h2)⟩
theorem PRs.app {ps ps' : List PV} {cs cs' : List Value} (h : PRs W ps cs) (k : PRs W ps' cs') : PRs W (ps ++ ps') (cs ++ cs') := by
  induction ps generalizing cs with
  | nil =>
    have : cs = [] := List.eq_nil_of_length_eq_zero h.1
    subst this; exact k
  | cons p r ih =>
    cases cs with
    | nil => have := h.1; simp at this
    | cons v c => exact .cons (h.2 0 p v rfl rfl) (ih ⟨by have := h.1; simpa using this, fun j p' v' h1 h2 => h.2 (j + 1) p' v' (by simpa using h1) (by simpa using h2)⟩)
theorem split2 {α : Type} (cs : List α) {a b : Nat} (h : cs.length = a + b) : cs = (cs.drop 0).take a ++ (cs.drop a).take b := by
  rw [List.drop_zero, List.take_of_length_le (l := cs.drop a) (by simp; omega), List.take_append_drop]
theorem split3 {α : Type} (cs : List α) {a b c : Nat} (h : cs.length = a + b + c) : cs = (cs.drop 0).take a ++ (cs.drop a).take b ++ (cs.drop (a + b)).take c := by
  rw [List.drop_zero, List.take_of_length_le (l := cs.drop (a + b)) (by simp; omega)]
  rw [List.append_assoc, ← List.drop_drop, List.take_append_drop, List.take_append_drop]
theorem split4 {α : Type} (cs : List α) (h : cs.length = 4) : cs = (cs.drop 0).take 1 ++ (cs.drop 1).take 1 ++ (cs.drop 2).take 1 ++ (cs.drop 3).take 1 := by
  match cs, h with
  | [a, b, c, d], _ => rfl
theorem one_int {n : Nat} {cs : List Value} {y : DataW H × List MemPlace} (h : DataW.trod enc Try.prog W base spare held n 3 cs = some y) : ∃ x : Int, cs = [.int .i64 x] := by
  obtain ⟨x, hx, _, wx⟩ := DataW.trod_int (by kernel_rfl : Try.prog.underlying 3 = some (.int .i64)) h
  exact ⟨x, hx⟩
theorem one_bool {n : Nat} {cs : List Value} {y : DataW H × List MemPlace} (h : DataW.trod enc Try.prog W base spare held n 4 cs = some y) : ∃ x, cs = [.bool x] := by
  obtain ⟨x, hx, _⟩ := DataW.trod_bool (by kernel_rfl : Try.prog.underlying 4 = some .bool) h
  exact ⟨x, hx⟩
theorem pick_of {n : Nat} {cs : List Value} {y : DataW H × List MemPlace} (h : DataW.trod enc Try.prog W base spare held n 44 cs = some y) : ∃ o f : Int, cs = [.int .i64 o, .int .i64 f] := by
  obtain ⟨xs, m, _, _, hl, hx, hf⟩ := DataW.trod_struct (P := Try.prog) (t := 44) rfl h
  have hx' : xs.length = 2 := hx
  have f0 := hf 0 _ rfl
  have f1 := hf 1 _ rfl
  rw [List.getElem?_eq_getElem (by omega)] at f0 f1
  obtain ⟨o, e0⟩ := one_int f0
  obtain ⟨f, e1⟩ := one_int f1
  have hc : Try.prog.cellsOf 3 = 1 := by kernel_rfl
  have hcl : Try.prog.cellsOf 44 = 2 := by kernel_rfl
  rw [hcl] at hl
  have hs := split2 cs (a := 1) (b := 1) hl
  refine ⟨o, f, ?_⟩
  rw [hs]
  change (cs.drop 0).take (Try.prog.cellsOf 3) = _ at e0
  rw [hc] at e0
  change (cs.drop 1).take (Try.prog.cellsOf 3) = _ at e1
  rw [hc] at e1
  rw [e0, e1]; rfl
theorem touch_of {n : Nat} {cs : List Value} {y : DataW H × List MemPlace} (h : DataW.trod enc Try.prog W base spare held n 40 cs = some y) : ∃ x : Tc, PRs W (tcC x) cs := by
  obtain ⟨xs, m, _, _, hl, hx, hf⟩ := DataW.trod_struct (P := Try.prog) (t := 40) rfl h
  have hx' : xs.length = 4 := hx
  have f0 := hf 0 _ rfl
  have f1 := hf 1 _ rfl
  have f2 := hf 2 _ rfl
  have f3 := hf 3 _ rfl
  rw [List.getElem?_eq_getElem (by omega)] at f0 f1 f2 f3
  obtain ⟨a, e0⟩ := one_int f0
  obtain ⟨b, e1⟩ := one_int f1
  obtain ⟨c, e2⟩ := one_int f2
  obtain ⟨d, e3⟩ := one_bool f3
  have hc : Try.prog.cellsOf 3 = 1 := by kernel_rfl
  have hb : Try.prog.cellsOf 4 = 1 := by kernel_rfl
  have hcl : Try.prog.cellsOf 40 = 4 := by kernel_rfl
  rw [hcl] at hl
  have hs := split4 cs hl
  refine ⟨⟨a, b, c, d⟩, ?_⟩
  rw [hs]
  change (cs.drop 0).take (Try.prog.cellsOf 3) = _ at e0
  rw [hc] at e0
  change (cs.drop 1).take (Try.prog.cellsOf 3) = _ at e1
  rw [hc] at e1
  change (cs.drop 2).take (Try.prog.cellsOf 3) = _ at e2
  rw [hc] at e2
  change (cs.drop 3).take (Try.prog.cellsOf 4) = _ at e3
  rw [hb] at e3
  rw [e0, e1, e2, e3]
  exact .cons (.val _ rfl) (.cons (.val _ rfl) (.cons (.val _ rfl) (.cons (.val _ rfl) .nil)))

/-- A slice, whose elements are known. -/
theorem sl_pr {α : Type} {n : Nat} {g : α → List PV} {e t : TypeId} (hu : Try.prog.underlying t = some (.slice e)) (hc : Try.prog.cellsOf e = n) (hg : ∀ x, (g x).length = n) (hn : 0 < n)
    (hel : ∀ m cs y, DataW.trod enc Try.prog W base spare held m e cs = some y → ∃ x, PRs W (g x) cs) {m : Nat} {cs : List Value} {y : DataW H × List MemPlace} (h : DataW.trod enc Try.prog W base spare held m t cs = some y) :
    ∃ (L : List α) (v : Value), cs = [v] ∧ PR (fun _ => False) W (.seq n (L.map g)) v := by
  rcases DataW.trod_slice hu h with ⟨h0, _⟩ | ⟨a, len, cap, elems, rest, k, _, hcs, _, _, hlc, hmax, hlen, hel', _⟩
  · exact ⟨[], _, h0, .nil n none 0 fun _ => rfl⟩
  · have hall : ∀ i, i < len → ∃ (x : α) (c : List Value), PRs W (g x) c ∧ ∀ j, j < n → W.cell? ((a.add (i * n)).add j) = c[j]? := fun i hi => by
      have hE := hel' i hi
      rw [List.getElem?_eq_getElem (by omega), Option.bind_eq_some_iff, hc] at hE
      obtain ⟨cs, hcs, hy⟩ := hE
      obtain ⟨_, hl, hat⟩ := World.cells?_some hcs
      obtain ⟨x, hx⟩ := hel _ _ _ hy
      exact ⟨x, cs, hx, fun j hj => hat j hj⟩
    by_cases h0 : 0 < len
    · obtain ⟨e0, c0, hp0, hc0⟩ := hall 0 h0
      have hl0 : c0.length = n := by rw [hp0.1, hg]
      have hc00 := hc0 0 hn
      obtain ⟨b, off, spot⟩ := a
      rw [List.getElem?_eq_getElem (by omega)] at hc00
      have hspot : spot = none := by
        have := World.cell?_spot hc00
        simpa [Addr.add] using this
      subst hspot
      have hall2 : ∀ i, i < len → ∃ (x : α) (c : List Value), PRs W (g x) c ∧ ∀ j, j < n → W.cell? ⟨b, off + i * n + j, none⟩ = c[j]? := fun i hi => by
        obtain ⟨x, c, h1, h2⟩ := hall i hi
        refine ⟨x, c, h1, fun j hj => ?_⟩
        have := h2 j hj
        rw [Go.WideShapes.add_plain, Go.WideShapes.add_plain] at this
        exact this
      have hOld : Old b W := by
        obtain ⟨x, c, h1, h2⟩ := hall2 0 h0
        have h3 := h2 0 hn
        have hl1 : c.length = n := by rw [h1.1, hg]
        rw [List.getElem?_eq_getElem (by omega)] at h3
        exact Old.of_cell h3
      let X : Fin len → α := fun i => (hall2 i.1 i.2).choose
      have hX : ∀ i : Fin len, ∃ c : List Value, PRs W (g (X i)) c ∧ ∀ j, j < n → W.cell? ⟨b, off + i.1 * n + j, none⟩ = c[j]? := fun i => (hall2 i.1 i.2).choose_spec
      have hlen2 : (((List.finRange len).map X).map g).length = len := by simp
      refine ⟨(List.finRange len).map X, .slice (some ⟨b, off, none⟩) (((List.finRange len).map X).map g).length cap, by rw [hcs, hlen2], ?_⟩
      have key : ∀ k r j x, (((List.finRange len).map X).map g)[k]? = some r → r[j]? = some x → ∃ v, W.cell? ⟨b, off + k * n + j, none⟩ = some v ∧ PR (fun _ => False) W x v := fun k r j x hk hx => by
        simp only [List.getElem?_map, Option.map_eq_some_iff] at hk
        obtain ⟨y, ⟨i, hi, rfl⟩, rfl⟩ := hk
        have hki : i.1 = k := by
          obtain ⟨h1, h2⟩ := List.getElem?_eq_some_iff.1 hi
          rw [← h2]; simp
        obtain ⟨c, h1, h2⟩ := hX i
        have hjn : j < n := by rw [← hg (X i)]; exact (List.getElem?_eq_some_iff.1 hx).1
        have hcl : c.length = n := by rw [h1.1, hg]
        have h3 := h2 j hjn
        rw [hki, List.getElem?_eq_getElem (by omega)] at h3
        exact ⟨_, h3, h1.2 j x _ hx (List.getElem?_eq_getElem (by omega))⟩
      refine .seq n b off cap _ (fun k j => (W.cell? ⟨b, off + k * n + j, none⟩).getD undef) hOld id (by rw [hlen2]; exact hlc) hmax (fun r hr => ?_) (fun k r j x hk hx => ?_) (fun k r j x hk hx => ?_)
      · obtain ⟨y, _, rfl⟩ := List.mem_map.1 hr; exact hg y
      · obtain ⟨v, h1, _⟩ := key k r j x hk hx
        rw [h1]; rfl
      · obtain ⟨v, h1, h2⟩ := key k r j x hk hx
        rw [h1]; exact h2
    · obtain rfl : len = 0 := by omega
      exact ⟨[], _, hcs, .nil n (some a) cap fun e => by cases e⟩
theorem step_of {n : Nat} {cs : List Value} {y : DataW H × List MemPlace} (h : DataW.trod enc Try.prog W base spare held n 48 cs = some y) : ∃ s : St, PRs W (stC s) cs := by
  obtain ⟨xs, m, _, _, hl, hx, hf⟩ := DataW.trod_struct (P := Try.prog) (t := 48) rfl h
  have hx' : xs.length = 3 := hx
  have f0 := hf 0 _ rfl
  have f1 := hf 1 _ rfl
  have f2 := hf 2 _ rfl
  rw [List.getElem?_eq_getElem (by omega)] at f0 f1 f2
  obtain ⟨g, c, e0⟩ := pick_of f0
  obtain ⟨gs, gv, e1, r1⟩ := sl_pr (e := 3) (n := 1) (g := inC) (by kernel_rfl) (by kernel_rfl) (fun _ => rfl) (by omega) (fun m cs y h => by obtain ⟨x, hx⟩ := one_int h; subst hx; exact ⟨x, .cons (.val _ rfl) .nil⟩) f1
  obtain ⟨ts, tv, e2, r2⟩ := sl_pr (e := 40) (n := 4) (g := tcC) (by kernel_rfl) (by kernel_rfl) (fun _ => rfl) (by omega) (fun m cs y h => touch_of h) f2
  have h0 : Try.prog.cellsOf 44 = 2 := by kernel_rfl
  have h1 : Try.prog.cellsOf 45 = 1 := by kernel_rfl
  have h2 : Try.prog.cellsOf 46 = 1 := by kernel_rfl
  have hcl : Try.prog.cellsOf 48 = 4 := by kernel_rfl
  rw [hcl] at hl
  have hs := split3 cs (a := 2) (b := 1) (c := 1) hl
  refine ⟨⟨g, c, gs, ts⟩, ?_⟩
  rw [hs]
  change (cs.drop 0).take (Try.prog.cellsOf 44) = _ at e0
  rw [h0] at e0
  change (cs.drop 2).take (Try.prog.cellsOf 45) = _ at e1
  rw [h1] at e1
  change (cs.drop (2 + 1)).take (Try.prog.cellsOf 46) = _ at e2
  rw [h2] at e2
  rw [e0, e1, e2]
  exact .cons (.val _ rfl) (.cons (.val _ rfl) (.cons r1 (.cons r2 .nil)))
theorem thread_of {n : Nat} {cs : List Value} {y : DataW H × List MemPlace} (h : DataW.trod enc Try.prog W base spare held n 30 cs = some y) : ∃ l : List St, PRs W [thP l] cs := by
  obtain ⟨l, v, rfl, hp⟩ := sl_pr (e := 48) (n := 4) (g := stC) (by kernel_rfl) (by kernel_rfl) (fun _ => rfl) (by omega) (fun m cs y h => step_of h) h
  exact ⟨l, .cons hp .nil⟩
theorem slice_of_cells {P : Program} {w : World} {r : Reach} {base : Nat} {t e : TypeId} {v x : Value} (hu : P.underlying t = some (.slice e)) (hok : Value.okWide P w r base t v) (h : v.cells.toList = [x]) : v = x := by
  unfold Value.okWide at hok
  rw [hu] at hok
  cases v <;> simp [Value.cells] at h <;> first | exact h | (simp [Cell.okWide, Cell.ok, hu] at hok)
theorem open_threads {r : Reach} {v : Value} {d : DataW H} {p : List MemPlace} (hval : Value.okWide Try.prog W r base 22 v)
    (h : DataW.Trod enc Try.prog W 0 (fun _ => true) true 22 v d p) : ∃ ths : List (List St), PR (fun _ => False) W (thsP ths) v := by
  obtain ⟨fuel, h⟩ := h
  obtain ⟨ths, x, e, hp⟩ := sl_pr (e := 30) (n := 1) (g := fun l => [thP l]) (by kernel_rfl) (by kernel_rfl) (fun _ => rfl) (by omega) (fun m cs y h => thread_of h) h
  rw [slice_of_cells (e := 30) (by kernel_rfl) hval e]
  exact ⟨ths, hp⟩
theorem Try.own : ownKnob Try.prog.godebug = none := by kernel_rfl
/-- The contract of a law's function, met at its arguments. -/
theorem PureC.gives {P : Program} {f : FuncId} {xs : List AV} {b : Bool} {vs : Array Value} (h : PureC P f xs (.bool b)) (hx : ARs 0 (fun _ => False) noLoc W xs vs.toList) : Calls P f vs W (Gives (.bool b) W) := by
  have := h (fun _ => False) W vs.toList (fun _ h => h.elim) hx
  refine Calls.mono this fun e w' ⟨v, h1, h2, h3⟩ => ?_
  subst h1
  exact ⟨by rw [h3.val], gw_of_below h2.toBelow⟩
end Go.Proofs.Ytbhkcejjehgfcaa
