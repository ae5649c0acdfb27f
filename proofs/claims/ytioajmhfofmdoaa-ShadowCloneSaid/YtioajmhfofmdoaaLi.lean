/- Locations yields the document's locations. -/
import Derived.Test.YtioajmhfofmdoaaLl
import Derived.Test.YtioajmhfofmdoaaNl
namespace Go.Proofs.Ytioajmhfofmdoaa
open Go.RowKit Go.Sort Go.Maps Go.Shelf

attribute [local go_sem] Oper.semAt_some

theorem run_neq_loc_same (o f : Int) (w : World) : (binOp .neq 24 (locv o f) (locv o f)).run Try.prog w = .ok (.bool false) w := by
  simp [go_sem]
theorem Boxed.drew {W : World} {B : Nat} {t : TypeId} {v : Value} (h : Boxed W B t v) : Boxed W.drew B t v := h
theorem KeepsOthers.drew (W : World) : KeepsOthers W W.drew := ⟨Nat.le_refl _, fun _ _ h _ => h⟩
theorem kpL_set {n0 : Nat} {W : World} {B : Nat} {v : Value} (h : Boxed W B 3 v) (u : Value) : KpL n0 W (W.setCell ⟨B, 0, none⟩ u).drew := by
  have hs := grownBy_setCell' W B u
  have hd := grown_drew (W.setCell ⟨B, 0, none⟩ u)
  refine ⟨fun k c t z ht hc => ?_, fun k es ck _ hc => ?_, by simp⟩
  · have hk : k ≠ B := fun e => by
      subst e
      rw [show W.heap[k]? = _ from h] at hc
      cases hc; exact ht rfl
    exact (hs.block k (by have := (Array.getElem?_eq_some_iff.1 hc).1; simpa using this) (by simpa using hk)).trans hc
  · have hk : k ≠ B := fun e => by
      subst e
      rw [show W.heap[k]? = _ from h] at hc
      cases hc
    exact (hs.block k (by have := (Array.getElem?_eq_some_iff.1 hc).1; simpa using this) (by simpa using hk)).trans hc

set_option maxRecDepth 100000 in
set_option maxHeartbeats 4000000 in
theorem listed_in {T : Nat → Prop} {B : Nat} {w : World} {bm bp tk nn : Nat} {l : List Ent} {vn : Value} (F : Fence) (hF : F = Fence.wide) (n : Nat) (hn : 6 ≤ n) (h : Holds T B w bm bp tk nn l) (hg : Good l) (hf : Fits l) (hnn : nn ≤ 2000) (he : EntT w vn l) (hlen : l.length ≤ 1000) :
    CallsIn F n Try.prog 19 #[.pointer (some ⟨bm, 0, none⟩), vn] w (Gives (.bool true) w) := by
  have h1 : 1 ≤ n := by omega
  have hro : F.round = none := by rw [hF]; rfl
  have h19 : F.fn 19 := by rw [hF]; trivial
  have h21 : F.fn 21 := by rw [hF]; trivial
  have h27 : F.fn 27 := by rw [hF]; trivial
  have HFW := Lib.hid hF
  clear hF
  obtain ⟨D, M, hM, hR⟩ := h
  obtain ⟨⟨ad, cap, rfl, hrow⟩, hty⟩ := he
  refine callsIn_of_wp_marks Try.func19 rfl h19 ?_ hro
  simp only [Try.ntmps19, List.size_toArray, List.length_cons, List.length_nil, Nat.reduceAdd, Nat.reduceSub, Array.replicate_succ, Array.replicate_zero, List.push_toArray, List.append_toArray, List.nil_append, List.cons_append]
  gi_wp2_with (gi_at_call 21; refine (loc_in F (n - 1) h21 hro _ _).mono ?_; rintro e w' ⟨rfl, rfl⟩)
  have hb0 : Below w.heap.size w ((((w.alloc (.cells #[.slice ad l.length cap] 29)).alloc (.cells #[.bool false] 4)).alloc (.cells #[.int .i64 0] 3)).alloc (.cells #[.pointer (some ⟨bm, 0, none⟩)] 26)) := (by repeat (first | exact Below.refl _ _ | refine below_gw ?_ (by simp; try omega) _ | refine Below.alloc ?_ (by simp; try omega) _ | refine Below.setCell ?_ (by simp; try omega) _ | refine Below.drew ?_))
  have b0 : Boxed ((((w.alloc (.cells #[.slice ad l.length cap] 29)).alloc (.cells #[.bool false] 4)).alloc (.cells #[.int .i64 0] 3)).alloc (.cells #[.pointer (some ⟨bm, 0, none⟩)] 26)) w.heap.size 29 (.slice ad l.length cap) := (((Boxed.new w _ _).alloc _).alloc _).alloc _
  have b1 : Boxed ((((w.alloc (.cells #[.slice ad l.length cap] 29)).alloc (.cells #[.bool false] 4)).alloc (.cells #[.int .i64 0] 3)).alloc (.cells #[.pointer (some ⟨bm, 0, none⟩)] 26)) (w.heap.size + 1) 4 (.bool false) := by
    have := ((Boxed.new (w.alloc (.cells #[.slice ad l.length cap] 29)) 4 (.bool false)).alloc (.cells #[.int .i64 0] 3)).alloc (.cells #[.pointer (some ⟨bm, 0, none⟩)] 26)
    rwa [World.size_alloc] at this
  have b2 : Boxed ((((w.alloc (.cells #[.slice ad l.length cap] 29)).alloc (.cells #[.bool false] 4)).alloc (.cells #[.int .i64 0] 3)).alloc (.cells #[.pointer (some ⟨bm, 0, none⟩)] 26)) (w.heap.size + 1 + 1) 3 (.int .i64 0) := by
    have := (Boxed.new ((w.alloc (.cells #[.slice ad l.length cap] 29)).alloc (.cells #[.bool false] 4)) 3 (.int .i64 0)).alloc (.cells #[.pointer (some ⟨bm, 0, none⟩)] 26)
    rwa [World.size_alloc, World.size_alloc] at this
  have b3 : Boxed ((((w.alloc (.cells #[.slice ad l.length cap] 29)).alloc (.cells #[.bool false] 4)).alloc (.cells #[.int .i64 0] 3)).alloc (.cells #[.pointer (some ⟨bm, 0, none⟩)] 26)) (w.heap.size + 1 + 1 + 1) 26 (.pointer (some ⟨bm, 0, none⟩)) := by
    have := Boxed.new (((w.alloc (.cells #[.slice ad l.length cap] 29)).alloc (.cells #[.bool false] 4)).alloc (.cells #[.int .i64 0] 3)) 26 (.pointer (some ⟨bm, 0, none⟩))
    rwa [World.size_alloc, World.size_alloc, World.size_alloc] at this
  have hsz : ((((w.alloc (.cells #[.slice ad l.length cap] 29)).alloc (.cells #[.bool false] 4)).alloc (.cells #[.int .i64 0] 3)).alloc (.cells #[.pointer (some ⟨bm, 0, none⟩)] 26)).heap.size = w.heap.size + 1 + 1 + 1 + 1 := by simp
  generalize ((((w.alloc (.cells #[.slice ad l.length cap] 29)).alloc (.cells #[.bool false] 4)).alloc (.cells #[.int .i64 0] 3)).alloc (.cells #[.pointer (some ⟨bm, 0, none⟩)] 26)) = w0 at *
  rename_i hK
  have hs0 := hb0.size
  have l3 := b3.lt
  have hbpw := hM.own.lt
  refine wpIn_rangeFunc_y (α := Int × Int) (fun pre x => pre ++ [x] <+: l.map locE) hro h1 (gf := 27) (lb := #[.pointer (some ⟨w.heap.size + 1 + 1 + 1, 0, none⟩)]) rfl h27 (enters_of Try.func27 (by kernel_rfl) rfl)
    (encs := fun x => #[locv x.1 x.2]) (Kp := fun _ => KpL w0.heap.size) (S := fun xs => xs = l.map locE) ?seq kpL_t (fun _ => kpL_b _) (fun _ => rfl)
    (fun pre W => (Boxed W w.heap.size 29 (.slice ad l.length cap) ∧ Boxed W (w.heap.size + 1) 4 (.bool false) ∧ Boxed W (w.heap.size + 1 + 1) 3 (.int .i64 (pre.length : Int)) ∧ Boxed W (w.heap.size + 1 + 1 + 1) 26 (.pointer (some ⟨bm, 0, none⟩))) ∧ Below w.heap.size w W)
    (OwnFrom.and (OwnFrom.and (Own.from (boxed_own _ _ (fun _ => .slice ad l.length cap)) _) (OwnFrom.and (Own.from (boxed_own _ _ (fun _ => .bool false)) _) (OwnFrom.and (Own.from (boxed_own _ _ (fun pre : List (Int × Int) => .int .i64 (pre.length : Int))) _) (Own.from (boxed_own _ _ (fun _ => .pointer (some ⟨bm, 0, none⟩))) _)))) (ownFrom_below (Nat.le_refl _) (by omega)))
    ⟨⟨b0, b1, b2, b3⟩, hb0⟩
    (fun x a' W => ∃ Bx, w0.heap.size ≤ Bx ∧ W.heap[Bx]? = some (.cells #[.int .i64 x.1, .int .i64 x.2] 24 (0, 0)) ∧ a' = { tmps := #[.pointer (some ⟨bm, 0, none⟩), .slice ad l.length cap, undef, .pointer (some ⟨w.heap.size, 0, none⟩), .pointer (some ⟨w.heap.size + 1, 0, none⟩), .pointer (some ⟨w.heap.size + 1 + 1, 0, none⟩), .pointer (some ⟨Bx, 0, none⟩), .pointer (some ⟨bm, 0, none⟩), .func (.func 27) #[] #[.pointer (some ⟨w.heap.size + 1 + 1 + 1, 0, none⟩)], locv x.1 x.2, undef, undef, undef, undef, undef, undef, undef, undef, undef, undef, undef, undef, undef, undef, undef, undef, undef, undef, undef], defers := [] }) ?ax ?assign ?body ?done
  case seq =>
    intro lp J W hW hJ hY h0
    have hbW : Below w.heap.size w W := hb0.trans (hW.mono hs0)
    exact locs_in F HFW.out (n - 1) lp w0.heap.size (w.heap.size + 1 + 1 + 1) (by omega) (hM.below hbW) (by omega) hnn (fit_law hR hf) ((hW.block _ b3.lt).trans b3) (l.map locE) (fun ps hs => locs_law hM hR hg hf ps hs) J hJ hY h0
  case ax =>
    rintro x a' _ A B' row ⟨Bx, hBx, hc, rfl⟩ hg hr
    refine ⟨Bx, hBx, (hg.block Bx (Array.getElem?_eq_some_iff.1 hc).1 (fun e => ?_)).trans hc, rfl⟩
    obtain ⟨_, o, ho, hcl⟩ := hr Bx e.symm
    rw [hc] at ho; cases ho; cases hcl
  case assign =>
    rintro lp pre x W K _ ⟨⟨c0, c1, c2, c3⟩, hB⟩ hK
    have hs := hB.size
    have lt2 := c2.lt
    have lt3 := c3.lt
    gi_wp2
    exact hK _ _ ((KeepsOthers.alloc _ _).from _) (kpL_g (World.grownBy_alloc _ _ none)) ⟨⟨c0.alloc _, c1.alloc _, c2.alloc _, c3.alloc _⟩, hB.alloc hs _⟩ ⟨W.heap.size, by omega, heap_alloc_new _ _, rfl⟩
  case body =>
    rintro lp pre x a' W hl ⟨r, hr⟩ hok ⟨⟨c0, c1, c2, c3⟩, hB⟩ ⟨Bx, hBx, hBc, rfl⟩
    have f0 := row_cells hBc 0
    have f1 := row_cells hBc 1
    simp at f0 f1
    have e0 := c0.cell
    have e2 := c2.cell
    have e2f := c2.frozen
    obtain ⟨rest, hrest⟩ := hok
    have hpl : pre.length < l.length := by
      have := congrArg List.length hrest
      simp at this; omega
    have hx : locE l[pre.length] = x := by
      have := congrArg (·[pre.length]?) hrest
      simpa [hpl] using this.symm
    obtain ⟨b, off, rfl, hold, hcs⟩ := hrow (by omega)
    have g0 := (hB.cell (p := ⟨b, off + pre.length * 15 + 0, none⟩) hold.lt).trans (hcs pre.length hpl 0 (by omega))
    have g1 := (hB.cell (p := ⟨b, off + pre.length * 15 + 1, none⟩) hold.lt).trans (hcs pre.length hpl 1 (by omega))
    have kb : (pre.length : Int) < l.length := by omega
    have kdn : decide (l.length ≤ pre.length) = false := by simp; omega
    have lt2 := c2.lt
    have lt3 := c3.lt
    have kd : decide ((l.length : Int) ≤ (pre.length : Int)) = false := by simp; omega
    have qn := run_neq_loc_same x.1 x.2
    have m1 : IntKind.i64.wrap ((pre.length : Int) + 1) = (pre.length : Int) + 1 := by rw [IntKind.wrap_i64]; omega
    have hmix : Try.prog.follows .mixedOrders = true := by kernel_rfl
    subst hx
    clear hcs hrow hrest
    generalize l[pre.length] = e at *
    obtain ⟨eo, ef, y⟩ := e
    simp [locE] at g0 g1 f0 f1 qn
    have oB : Old Bx W := Old.of_cell f0
    have ob : Old b W := Old.of_cell g0
    gi_wp2
    gi_region_with_o (fail)
    all_goals (
      gi_wp2
      have b2 := c2.set (.int .i64 ((pre.length : Int) + 1))
      have hs := hB.size
      refine ⟨((KeepsOthers.setCell W _ _).trans (KeepsOthers.drew _)).from _, kpL_set c2 _, ⟨?_, ?_, ?_, ?_⟩, ?_⟩
      · exact Boxed.drew (Boxed.other (B' := w.heap.size + 1 + 1) c0 (by omega) _)
      · exact Boxed.drew (Boxed.other (B' := w.heap.size + 1 + 1) c1 (by omega) _)
      · rw [List.length_append]; simpa using Boxed.drew b2
      · exact Boxed.drew (Boxed.other (B' := w.heap.size + 1 + 1) c3 (by omega) _)
      · exact (hB.setCell (p := ⟨w.heap.size + 1 + 1, 0, none⟩) (by simp; omega) _).drew)
  case done =>
    rintro D' ys W hD hS ⟨⟨c0, c1, c2, c3⟩, hB⟩ hKD
    subst hS
    rw [List.length_map] at c2
    have e0 := c0.cell
    have e1 := c1.cell
    have e2 := c2.cell
    have f1 := c1.frozen
    have lt3 := c3.lt
    have hs := hB.size
    gi_wp2
    have hset := c1.set (.bool true)
    have hKD2 : (W.setCell ⟨w.heap.size + 1, 0, none⟩ (.bool true)).heap[D']? = some (.deferred (some [])) := (KeepsOthers.setCell W _ _).same D' _ hKD rfl
    refine ⟨by simp, .inl ⟨_, _, rfl, run_takeDeferred hKD2, ?_⟩⟩
    have hDD : D' ≠ w.heap.size + 1 := fun e => by
      subst e
      rw [show W.heap[w.heap.size + 1]? = _ from c1] at hKD
      cases hKD
    have hb' := hset.kept (grownBy_putObj' _ D' (.deferred none)) (by simpa using hDD.symm)
    have hc := hb'.cell
    refine ⟨.bool true, by simp [results, Try.results19, go_sem, hc], Gives.mk rfl ((hB.setCell (p := ⟨w.heap.size + 1, 0, none⟩) (by simp) (.bool true)).trans ?_)⟩
    exact (Below.refl w.heap.size _).grown (grownBy_putObj' _ D' _) (by simp; omega) (fun k e => by cases e; omega)

theorem listed_any {T : Nat → Prop} {B : Nat} {w : World} {bm bp tk nn : Nat} {l : List Ent} {vn : Value} (h : Holds T B w bm bp tk nn l) (hg : Good l) (hf : Fits l) (hnn : nn ≤ 2000) (he : EntT w vn l) (hlen : l.length ≤ 1000) :
    Calls Try.prog 19 #[.pointer (some ⟨bm, 0, none⟩), vn] w (Gives (.bool true) w) :=
  (callsIn_wide (n := 6)).1 (listed_in Fence.wide rfl 6 (Nat.le_refl _) h hg hf hnn he hlen)

end Go.Proofs.Ytioajmhfofmdoaa
