/- ShadowLocations: the walk to the last loop. -/
import Derived.Test.YtioajmhfofmdoaaSp
import Derived.Test.YtioajmhfofmdoaaRz
import Derived.Test.YtioajmhfofmdoaaLz
namespace Go.Proofs.Ytioajmhfofmdoaa
open Go.RowKit Go.Sort Go.Maps Go.Shelf

attribute [local go_sem] Oper.semAt_some

theorem MemAt.store {T : Nat → Prop} {B : Nat} {w : World} {bm bp tk n : Nat} {D : DataW Nat} {M : Int → Int → Wd} (h : MemAt T B w bm bp tk n D M) {Bn : Nat} {u : Value} (hb : Boxed w Bn 29 u) (v : Value) : MemAt T B (w.setCell ⟨Bn, 0, none⟩ v) bm bp tk n D M := by
  have hs := grownBy_setCell' w Bn v
  have kc : ∀ (k : Nat) (c : Array Value) (t : TypeId) (z : Nat × Nat), t ≠ 29 → w.heap[k]? = some (Obj.cells c t z) → (w.setCell ⟨Bn, 0, none⟩ v).heap[k]? = some (Obj.cells c t z) := fun k c t z ht hc => by
    have hk : k ≠ Bn := fun e => by
      subst e
      rw [show w.heap[k]? = _ from hb] at hc
      cases hc; exact ht rfl
    exact (hs.block k (Array.getElem?_eq_some_iff.1 hc).1 (by simpa using hk)).trans hc
  have km : ∀ (k : Nat) (es : Array MapEntry) (ck : Nat), w.heap[k]? = some (Obj.map es ck) → (w.setCell ⟨Bn, 0, none⟩ v).heap[k]? = some (Obj.map es ck) := fun k es ck hc => by
    have hk : k ≠ Bn := fun e => by
      subst e
      rw [show w.heap[k]? = _ from hb] at hc
      cases hc
    exact (hs.block k (Array.getElem?_eq_some_iff.1 hc).1 (by simpa using hk)).trans hc
  refine ⟨kc _ _ _ _ (by decide) h.cell, ?_, fun o p hp => ?_, h.apart, h.keys, h.tok, fun t ht => ?_, h.mine⟩
  · obtain ⟨es, ck, hb, rest⟩ := h.own
    exact ⟨es, ck, km _ _ _ hb, rest⟩
  · rcases h.page o p hp with h1 | ⟨b, t, h1, h2, h3, h4⟩
    · exact .inl h1
    · exact .inr ⟨b, t, h1, h2, kc _ _ _ _ (by decide) h3, h4⟩
  · obtain ⟨c, hc⟩ := h.toks t ht
    exact ⟨c, kc _ _ _ _ (by decide) hc⟩
theorem Holds.store {T : Nat → Prop} {B : Nat} {w : World} {bm bp tk n : Nat} {l : List Ent} (h : Holds T B w bm bp tk n l) {Bn : Nat} {u : Value} (hb : Boxed w Bn 29 u) (v : Value) : Holds T B (w.setCell ⟨Bn, 0, none⟩ v) bm bp tk n l := by
  obtain ⟨D, M, h1, h2⟩ := h
  exact ⟨D, M, h1.store hb v, h2⟩
theorem EntT.store {w : World} {v : Value} {l : List Ent} (h : EntT w v l) {Bn : Nat} {u : Value} (hb : Boxed w Bn 29 u) (x : Value) : EntT (w.setCell ⟨Bn, 0, none⟩ x) v l := by
  obtain ⟨⟨ad, cap, rfl, hr⟩, ht⟩ := h
  have hs := grownBy_setCell' w Bn x
  have key : ∀ b off, ad = some ⟨b, off, none⟩ → (w.setCell ⟨Bn, 0, none⟩ x).heap[b]? = w.heap[b]? := fun b off e => by
    obtain ⟨c, z, hc⟩ := ht b off _ _ (by rw [e])
    refine hs.block b (Array.getElem?_eq_some_iff.1 hc).1 ?_
    simp only [ne_eq, Option.some.injEq]
    intro e'
    subst e'
    rw [show w.heap[b]? = _ from hb] at hc
    simp only [Option.some.injEq, Obj.cells.injEq] at hc
    exact absurd hc.2.1 (by decide)
  refine ⟨⟨ad, cap, rfl, fun h0 => ?_⟩, fun b off n' cap' e => ?_⟩
  · obtain ⟨b, off, e, ho, hc⟩ := hr h0
    exact ⟨b, off, e, Nat.lt_of_lt_of_le ho hs.size, fun k hk i hi => (World.cell?_of_block (a := ⟨b, off + k * 15 + i, none⟩) (key b off e)).trans (hc k hk i hi)⟩
  · cases e
    obtain ⟨c, z, hc⟩ := ht b off _ _ rfl
    exact ⟨c, z, (key b off rfl).trans hc⟩

/-- Between two changes. -/
structure Run2 (L : List OpT) (w wr : World) (B bm bp tk : Nat) (vn : Value) (k n : Nat) (l : List Ent) (st : Int) (Bn : Nat) : Prop where
  run : Run0 L w wr B bm bp tk vn k n l
  b0 : Boxed wr w.heap.size 3 (.int .i64 st)
  b1 : Boxed wr (w.heap.size + 1) 4 (.bool false)
  bn : Boxed wr Bn 29 vn
  hBn : w.heap.size + 2 ≤ Bn
theorem Run2.store {L : List OpT} {w wr : World} {B bm bp tk : Nat} {vn : Value} {k n : Nat} {l : List Ent} {st : Int} {Bn : Nat} {u : Value} (h : Run0 L w wr B bm bp tk vn k n l) (b0 : Boxed wr w.heap.size 3 (.int .i64 st)) (b1 : Boxed wr (w.heap.size + 1) 4 (.bool false)) (bn : Boxed wr Bn 29 u) (hBn : w.heap.size + 2 ≤ Bn) :
    Run2 L w (wr.setCell ⟨Bn, 0, none⟩ vn) B bm bp tk vn k n l st Bn :=
  ⟨⟨h.holds.store bn vn, h.ent.store bn vn, h.good, h.fits, h.len, h.cnt, h.below.setCell (p := ⟨Bn, 0, none⟩) (by simp; omega) vn, h.lo, h.obs⟩, b0.other (by omega) _, b1.other (by omega) _, bn.set vn, hBn⟩

set_option maxRecDepth 100000 in
set_option maxHeartbeats 4000000 in
theorem locations_in (vo : Value) (L : List OpT) (st : Int) (w : World) (F : Fence) (hF : F = Fence.wide) (n : Nat) (hn : 7 ≤ n) (ho : OpsAt w.heap.size w vo L) (hb : ∀ e ∈ L, I64 e.1 ∧ I64 e.2.1) (hst : I64 st) :
    CallsIn F n Try.prog 6 #[vo, .int .i64 st] w (Gives (.bool true) w) := by
  have h1 : 1 ≤ n := by omega
  have hro : F.round = none := by rw [hF]; rfl
  have h6 : F.fn 6 := by rw [hF]; trivial
  have h21 : F.fn 21 := by rw [hF]; trivial
  have h27 : F.fn 27 := by rw [hF]; trivial
  have f9 : F.fn 9 := by rw [hF]; trivial
  have f10 : F.fn 10 := by rw [hF]; trivial
  have f11 : F.fn 11 := by rw [hF]; trivial
  have f12 : F.fn 12 := by rw [hF]; trivial
  have f19 : F.fn 19 := by rw [hF]; trivial
  have HFW := Lib.hid hF
  have hcw : ∀ (m : Nat) f args w R, Calls Try.prog f args w R → CallsIn F m Try.prog f args w R := by subst hF; exact fun _ _ _ _ _ => callsIn_wide.2
  clear hF
  have HO := Lib.hid ho
  have HBD := Lib.hid hb
  clear hb
  obtain ⟨ad, cap, rfl, hrow⟩ := ho
  have HR := Lib.hid hrow; clear hrow
  refine callsIn_of_wp_marks Try.func6 rfl h6 ?_ hro
  simp only [Try.ntmps6, List.size_toArray, List.length_cons, List.length_nil, Nat.reduceAdd, Nat.reduceSub, Array.replicate_succ, Array.replicate_zero, List.push_toArray, List.append_toArray, List.nil_append, List.cons_append]
  have hb0 : Below w.heap.size w ((w.alloc (.cells #[.int .i64 st] 3)).alloc (.cells #[.bool false] 4)) := (by repeat (first | exact Below.refl _ _ | refine below_gw ?_ (by simp; try omega) _ | refine Below.alloc ?_ (by simp; try omega) _ | refine Below.setCell ?_ (by simp; try omega) _ | refine Below.drew ?_))
  have b0 : Boxed ((w.alloc (.cells #[.int .i64 st] 3)).alloc (.cells #[.bool false] 4)) w.heap.size 3 (.int .i64 st) := (Boxed.new w _ _).alloc _
  have b1 : Boxed ((w.alloc (.cells #[.int .i64 st] 3)).alloc (.cells #[.bool false] 4)) (w.heap.size + 1) 4 (.bool false) := by
    have := Boxed.new (w.alloc (.cells #[.int .i64 st] 3)) 4 (.bool false)
    rwa [World.size_alloc] at this
  have HB0 := Lib.hid hb0
  have HX0 := Lib.hid b0
  have HX1 := Lib.hid b1
  clear hb0 b0 b1
  by_cases hgt : 60 < L.length
  · have hd : decide ((60 : Int) < (L.length : Int)) = true := by simp; omega
    gi_wp2_with (gi_at_call 9; refine (hcw _ _ _ _ _ (awake_any _)).mono ?_; rintro e w1 ⟨rfl, p1, rfl⟩)
    have hB1 : Below w.heap.size w (gw ((w.alloc (.cells #[.int .i64 st] 3)).alloc (.cells #[.bool true] 4)) p1) := (by repeat (first | exact Below.refl _ _ | refine below_gw ?_ (by simp; try omega) _ | refine Below.alloc ?_ (by simp; try omega) _ | refine Below.setCell ?_ (by simp; try omega) _ | refine Below.drew ?_))
    have hc : (gw ((w.alloc (.cells #[.int .i64 st] 3)).alloc (.cells #[.bool true] 4)) p1).cell? ⟨w.heap.size + 1, 0, none⟩ = some (.bool true) := by simp [go_sem]
    exact ⟨.bool true, by simp [results, Try.results6, go_sem, hc], Gives.mk rfl hB1⟩
  have hd : decide ((60 : Int) < (L.length : Int)) = false := by simp; omega
  gi_wp2_with (first | (gi_at_call 9; refine (hcw _ _ _ _ _ (awake_any _)).mono ?_; rintro e w1 ⟨rfl, p1, rfl⟩) | (gi_at_call 10; refine Stop.here ?_))
  refine Stop.on ?_
  refine (hcw _ _ _ _ _ (newH_any _)).mono ?_
  rintro e w1 ⟨bm, bp, tk, rfl, hb1, hm⟩
  have HRun := Lib.hid (show Run2 L w (w1.alloc (.cells #[.slice none 0 0] 29)) (gw ((w.alloc (.cells #[.int .i64 st] 3)).alloc (.cells #[.bool false] 4)) p1).heap.size bm bp tk (.slice none 0 0) 0 0 [] st w1.heap.size from by
    have g1 := gw_grown ((w.alloc (.cells #[.int .i64 st] 3)).alloc (.cells #[.bool false] 4)) p1
    have hlo : w.heap.size + 2 ≤ (gw ((w.alloc (.cells #[.int .i64 st] 3)).alloc (.cells #[.bool false] 4)) p1).heap.size := by simp <;> omega
    have hB := HB0.out.trans ((gw_below ((w.alloc (.cells #[.int .i64 st] 3)).alloc (.cells #[.bool false] 4)) p1).mono (by simp <;> omega))
    have hb1s := hb1.size
    have hB1 := hB.trans (hb1.mono (by omega))
    have ha : Below w1.heap.size w1 (w1.alloc (.cells #[.slice none 0 0] 29)) := (by repeat (first | exact Below.refl _ _ | refine below_gw ?_ (by simp; try omega) _ | refine Below.alloc ?_ (by simp; try omega) _ | refine Below.setCell ?_ (by simp; try omega) _ | refine Below.drew ?_))
    have x0 := (HX0.out.kept g1 (by simp))
    have x1 := (HX1.out.kept g1 (by simp))
    exact ⟨⟨hm.below ha, ⟨⟨none, 0, rfl, fun h => absurd h (by simp)⟩, fun _ _ _ _ e => by cases e⟩, good_nil, fits_nil, by simp, by omega, hB1.trans (ha.mono hB1.size), by omega, fun _ h => by cases h⟩,
      Boxed.alloc ((hb1.block _ (Array.getElem?_eq_some_iff.1 x0).1).trans x0) _, Boxed.alloc ((hb1.block _ (Array.getElem?_eq_some_iff.1 x1).1).trans x1) _, Boxed.new _ _ _, by omega⟩)
  clear hb1 hm HB0 HX0 HX1
  generalize (gw ((w.alloc (.cells #[.int .i64 st] 3)).alloc (.cells #[.bool false] 4)) p1).heap.size = B at *
  gi_wp2
  generalize w1.alloc (.cells #[.slice none 0 0] 29) = w2 at *
  generalize w1.heap.size = Bn at *
  gi_loopw [19] (fun i wr => ∃ (k n : Nat) (l : List Ent) (vn : Value), k ≤ L.length ∧ i = .int .i64 k ∧ Run2 L w wr B bm bp tk vn k n l st Bn) (fun i _ => L.length - (intOf i).toNat)
  case atStart => exact ⟨0, 0, [], _, by omega, rfl, HRun.out⟩
  case round =>
    obtain ⟨k, nn, l, vn, hk, rfl, hrun⟩ := hrel
    by_cases hlt : k < L.length
    · as_aux_lemma =>
      have HN := Lib.hid hrun.run
      have HZ0 := Lib.hid hrun.b0
      have HZ1 := Lib.hid hrun.b1
      have HZn := Lib.hid hrun.bn
      have HBn := Lib.hid hrun.hBn
      clear hrun HRun
      have hops := HO.out.below HN.out.below
      obtain ⟨_, _, he, hops⟩ := hops
      cases he
      obtain ⟨bo, off, rfl, hbo, hold, hcs⟩ := hops (by omega)
      have hold' := hold.lt
      have f0 := hcs k hlt 0 (by omega)
      have f1 := hcs k hlt 1 (by omega)
      have f2 := hcs k hlt 2 (by omega)
      have f3 := hcs k hlt 3 (by omega)
      have f4 := hcs k hlt 4 (by omega)
      have f5 := hcs k hlt 5 (by omega)
      have f6 := hcs k hlt 6 (by omega)
      have f7 := hcs k hlt 7 (by omega)
      have f8 := hcs k hlt 8 (by omega)
      have f9 := hcs k hlt 9 (by omega)
      have f10 := hcs k hlt 10 (by omega)
      have f11 := hcs k hlt 11 (by omega)
      have f12 := hcs k hlt 12 (by omega)
      have f13 := hcs k hlt 13 (by omega)
      have f14 := hcs k hlt 14 (by omega)
      have f15 := hcs k hlt 15 (by omega)
      have kb : (k : Int) < L.length := by omega
      have hbd := Lib.hid (HBD.out _ (List.getElem_mem hlt))
      have hLk := Lib.hid (show L[k]? = some L[k] from List.getElem?_eq_getElem hlt)
      clear hcs hops
      generalize L[k] = e at *
      obtain ⟨o, f, x, d⟩ := e
      simp at f0 f1 f2 f3 f4 f5 f6 f7 f8 f9 f10 f11 f12 f13 f14 f15
      gi_wp2_with (gi_at_call 11; refine Stop.here ?_)
      refine Stop.on ?_
      have hw : Below wr.heap.size wr (wr.alloc (.cells (opC (o, f, x, d)).toArray 39)) := (by repeat (first | exact Below.refl _ _ | refine below_gw ?_ (by simp; try omega) _ | refine Below.alloc ?_ (by simp; try omega) _ | refine Below.setCell ?_ (by simp; try omega) _ | refine Below.drew ?_))
      have g1 := heap_alloc_at' wr (.cells (opC (o, f, x, d)).toArray 39) wr.heap.size rfl
      have h1 := HN.out.holds.below hw
      obtain ⟨es, ck, m1⟩ := h1.isMap
      refine (hcw _ _ _ _ _ (doH_any h1 o f x d hbd.out.1 hbd.out.2 (by have := HN.out.cnt; omega))).mono ?_
      rintro e w2 ⟨rfl, n2, hn2, h2, fr2, hb2⟩
      have HG1 := Lib.hid (fr2.row m1 g1 (by decide))
      have HZ0b := Lib.hid (show Boxed w2 _ _ _ from fr2.row m1 (HZ0.out.alloc _) (by decide))
      have HZ1b := Lib.hid (show Boxed w2 _ _ _ from fr2.row m1 (HZ1.out.alloc _) (by decide))
      have HZnb := Lib.hid (show Boxed w2 _ _ _ from fr2.row m1 (HZn.out.alloc _) (by decide))
      have HE1 := Lib.hid (fr2.ent m1 (HN.out.ent.below hw))
      have HB1 := Lib.hid (HN.out.below.trans ((hw.mono HN.out.below.size).trans (hb2.mono HN.out.lo)))
      have HH1 := Lib.hid h2
      have HC1 := Lib.hid (show n2 ≤ k + 1 by have := HN.out.cnt; omega)
      clear hw g1 h1 m1 fr2 hb2 h2 hn2 HZ0 HZ1 HZn
      clear f0 f1 f2 f3 f4 f5 f6 f7 f8 f9 f10 f11 f12 f13 f14 f15
      generalize wr.heap.size = ob at *
      have g0 := row_cells HG1.out 0
      have g1 := row_cells HG1.out 1
      have g2 := row_cells HG1.out 2
      have g3 := row_cells HG1.out 3
      have g4 := row_cells HG1.out 4
      have g5 := row_cells HG1.out 5
      have g6 := row_cells HG1.out 6
      have g7 := row_cells HG1.out 7
      have g8 := row_cells HG1.out 8
      have g9 := row_cells HG1.out 9
      have g10 := row_cells HG1.out 10
      have g11 := row_cells HG1.out 11
      have g12 := row_cells HG1.out 12
      have g13 := row_cells HG1.out 13
      have g14 := row_cells HG1.out 14
      have g15 := row_cells HG1.out 15
      simp at g0 g1 g2 g3 g4 g5 g6 g7 g8 g9 g10 g11 g12 g13 g14 g15
      have og : Old ob _ := (Array.getElem?_eq_some_iff.1 HG1.out).1
      have g16 := HZnb.out.cell
      have og6 : Old Bn w2 := HZnb.out.lt
      gi_wp2_with (gi_at_call 12; refine Stop.here ?_)
      refine Stop.on ?_
      refine (hcw _ _ _ _ _ (doR_any _ l o f x d _ HE1.out (by have := HN.out.len; omega))).mono ?_
      rintro e w3 ⟨v', rfl, hb3, he3⟩
      obtain ⟨ad', cap', hv', _⟩ := he3.1
      subst hv'
      have HN3 := Lib.hid (show Run0 L w w3 B bm bp tk (.slice ad' (doM l (chOf o f x d)).length cap') (k + 1) n2 (doM l (chOf o f x d)) from
        ⟨HH1.out.below hb3, he3, good_do HN.out.good _ _ _ _, fits_do HN.out.fits _ _ _ _ hbd.out.1 hbd.out.2, by have := HN.out.len; have := do_len (l := l) o f x d; omega, HC1.out, HB1.out.trans (hb3.mono HB1.out.size), HN.out.lo, obs_do HN.out.obs hLk.out⟩)
      have HZ0 := Lib.hid (show Boxed w3 _ _ _ from (hb3.block _ HZ0b.out.lt).trans HZ0b.out)
      have HZ1 := Lib.hid (show Boxed w3 _ _ _ from (hb3.block _ HZ1b.out.lt).trans HZ1b.out)
      have HZn := Lib.hid (show Boxed w3 _ _ _ from (hb3.block _ HZnb.out.lt).trans HZnb.out)
      clear hb3 he3 HG1 HE1 HB1 HH1 HC1 HN HZ0b HZ1b HZnb g16 og6
      clear g0 g1 g2 g3 g4 g5 g6 g7 g8 g9 g10 g11 g12 g13 g14 g15 og
      have g16 := HZn.out.cell
      have g17 := HZn.out.frozen
      have og6 : Old Bn w3 := HZn.out.lt
      generalize doM l (chOf o f x d) = l3 at *
      gi_wp2
      go_roundw
      case rel => exact ⟨k + 1, n2, l3, .slice ad' l3.length cap', by omega, by go_num, Run2.store HN3.out HZ0.out HZ1.out HZn.out HBn.out⟩
      case measure => simp [intOf]; omega
    · have hkl : k = L.length := by omega
      subst hkl
      have HN := Lib.hid hrun
      clear hrun HRun hlt
      have HV := Lib.hid HN.out.run.ent
      obtain ⟨⟨ad2, cap2, rfl, hrow2⟩, hty⟩ := HV.out
      have HL := Lib.hid (listed_any HN.out.run.holds HN.out.run.good HN.out.run.fits (by have := HN.out.run.cnt; omega) HV.out (by have := HN.out.run.len; omega))
      have x6 := HN.out.bn.cell
      have o6 := HN.out.bn.lt
      gi_wp2_with (gi_at_call 19; refine Stop.here ?_)
      refine Stop.on ?_
      refine (hcw _ _ _ _ _ HL.out).mono ?_
      rintro e w4 ⟨rfl, p4, rfl⟩
      have HW4 := Lib.hid (show Run2 L w (gw wr p4) B bm bp tk (.slice ad2 l.length cap2) L.length nn l st Bn from
        ⟨HN.out.run.gw p4, HN.out.b0.kept (gw_grown wr p4) (by simp), HN.out.b1.kept (gw_grown wr p4) (by simp), HN.out.bn.kept (gw_grown wr p4) (by simp), HN.out.hBn⟩)
      clear x6 o6 HL HV hrow2 hty HN
      generalize gw wr p4 = w4 at *
      have x0 := HW4.out.b0.cell
      have o0 := HW4.out.b0.lt
      have x1 := HW4.out.b1.cell
      have o1 := HW4.out.b1.lt
      have x1f := HW4.out.b1.frozen
      have x6 := HW4.out.bn.cell
      have o6 := HW4.out.bn.lt
      by_cases hneg : st < 0
      · have hd1 : decide (st < 0) = true := by simp; omega
        gi_wp2
        have hB1 : Below w.heap.size w (w4.setCell ⟨w.heap.size + 1, 0, none⟩ (.bool true)) := HW4.out.run.below.setCell (p := ⟨w.heap.size + 1, 0, none⟩) (by simp) _
        have hc := (HW4.out.b1.set (.bool true)).cell
        exact ⟨.bool true, by simp [results, Try.results6, go_sem, hc], Gives.mk rfl hB1⟩
      have hd1 : decide (st < 0) = false := by simp; omega
      by_cases hge : (l.length : Int) ≤ st
      · have hd2 : decide ((l.length : Int) ≤ st) = true := by simp; omega
        gi_wp2
        have hB1 : Below w.heap.size w (w4.setCell ⟨w.heap.size + 1, 0, none⟩ (.bool true)) := HW4.out.run.below.setCell (p := ⟨w.heap.size + 1, 0, none⟩) (by simp) _
        have hc := (HW4.out.b1.set (.bool true)).cell
        exact ⟨.bool true, by simp [results, Try.results6, go_sem, hc], Gives.mk rfl hB1⟩
      have hd2 : decide ((l.length : Int) ≤ st) = false := by simp; omega
      gi_wp2_with (gi_at_call 21; refine (loc_in F (n - 1) h21 hro _ _).mono ?_; rintro e w' ⟨rfl, rfl⟩)
      have hb0 : Below w4.heap.size w4 ((w4.alloc (.cells #[.int .i64 0] 3)).alloc (.cells #[.pointer (some ⟨bm, 0, none⟩)] 26)) := (by repeat (first | exact Below.refl _ _ | refine below_gw ?_ (by simp; try omega) _ | refine Below.alloc ?_ (by simp; try omega) _ | refine Below.setCell ?_ (by simp; try omega) _ | refine Below.drew ?_))
      have b0 : Boxed ((w4.alloc (.cells #[.int .i64 0] 3)).alloc (.cells #[.pointer (some ⟨bm, 0, none⟩)] 26)) w4.heap.size 3 (.int .i64 0) := (Boxed.new w4 _ _).alloc _
      have b1 : Boxed ((w4.alloc (.cells #[.int .i64 0] 3)).alloc (.cells #[.pointer (some ⟨bm, 0, none⟩)] 26)) (w4.heap.size + 1) 26 (.pointer (some ⟨bm, 0, none⟩)) := by
        have := Boxed.new (w4.alloc (.cells #[.int .i64 0] 3)) 26 (.pointer (some ⟨bm, 0, none⟩))
        rwa [World.size_alloc] at this
      have hsz : ((w4.alloc (.cells #[.int .i64 0] 3)).alloc (.cells #[.pointer (some ⟨bm, 0, none⟩)] 26)).heap.size = w4.heap.size + 1 + 1 := by simp
      generalize ((w4.alloc (.cells #[.int .i64 0] 3)).alloc (.cells #[.pointer (some ⟨bm, 0, none⟩)] 26)) = w5 at *
      rename_i hK
      obtain ⟨D, M, hM, hR⟩ := HW4.out.run.holds
      have hgd := HW4.out.run.good
      have hft := HW4.out.run.fits
      have hcnt := HW4.out.run.cnt
      have hln := HW4.out.run.len
      obtain ⟨⟨_, _, hev, hrow⟩, hty⟩ := HW4.out.run.ent
      cases hev
      have hs0 := hb0.size
      have l1 := b1.lt
      have hbpw := hM.own.lt
      refine wpIn_rangeFunc_z (α := Int × Int) (fun pre x => pre ++ [x] <+: l.map locE) hro h1 (gf := 27) (lb := #[.pointer (some ⟨w4.heap.size + 1, 0, none⟩)]) rfl h27 (enters_of Try.func27 (by kernel_rfl) rfl)
        (encs := fun x => #[locv x.1 x.2]) (Kp := fun _ => KpL w5.heap.size) (S := fun xs => xs = l.map locE) ?seq kpL_t (fun _ => kpL_b _) (fun _ => rfl)
        (fun pre W => ((Boxed W w4.heap.size 3 (.int .i64 (pre.length : Int)) ∧ Boxed W (w4.heap.size + 1) 26 (.pointer (some ⟨bm, 0, none⟩))) ∧ Below w4.heap.size w4 W) ∧ (pre.length : Int) ≤ st)
        (fun id pre W => (Boxed W w4.heap.size 3 (.int .i64 st) ∧ Below w4.heap.size w4 W) ∧ id = 2)
        (OwnFrom.and (OwnFrom.and (OwnFrom.and (Own.from (boxed_own _ _ (fun pre : List (Int × Int) => .int .i64 (pre.length : Int))) _) (Own.from (boxed_own _ _ (fun _ => .pointer (some ⟨bm, 0, none⟩))) _)) (ownFrom_below (Nat.le_refl _) (by omega))) (fun _ _ _ _ h _ _ => h))
        (fun id => OwnFrom.and (OwnFrom.and (Own.from (boxed_own _ _ (fun _ => .int .i64 st)) _) (ownFrom_below (Nat.le_refl _) (by omega))) (fun _ _ _ _ h _ _ => h))
        ⟨⟨⟨b0, b1⟩, hb0⟩, by simp; omega⟩
        (fun x a' W => ∃ Bx, w5.heap.size ≤ Bx ∧ W.heap[Bx]? = some (.cells #[.int .i64 x.1, .int .i64 x.2] 24 (0, 0)) ∧ a' = { tmps := #[.slice ad L.length cap, .int .i64 st, undef, .pointer (some ⟨w.heap.size, 0, none⟩), .pointer (some ⟨w.heap.size + 1, 0, none⟩), .pointer (some ⟨bm, 0, none⟩), .pointer (some ⟨Bn, 0, none⟩), undef, u8, .pointer (some ⟨w4.heap.size, 0, none⟩), .pointer (some ⟨Bx, 0, none⟩), .bool true, .bool false, .slice ad L.length cap, .int .i64 L.length, .bool false, .pointer (some ⟨bm, 0, none⟩), .slice ad L.length cap, .int .i64 L.length, .int .i64 L.length, .bool false, u21, u22, u23, u24, u25, u26, u27, u28, u29, .pointer (some ⟨bm, 0, none⟩), .slice ad2 l.length cap2, .bool true, .bool false, .int .i64 st, .bool false, .bool false, .int .i64 st, .slice ad2 l.length cap2, .int .i64 l.length, .bool false, .bool false, .pointer (some ⟨bm, 0, none⟩), .func (.func 27) #[] #[.pointer (some ⟨w4.heap.size + 1, 0, none⟩)], locv x.1 x.2, undef, undef, undef, undef, undef, undef, undef, undef, undef, undef, undef, undef, undef, undef, undef], defers := [] }) ?ax ?assign ?body ?done ?stop
      case seq =>
        intro lp J Jx W hW hJ hY h0
        have hbW : Below w4.heap.size w4 W := hb0.trans (hW.mono hs0)
        exact locsX_in F HFW.out (n - 1) lp w5.heap.size (w4.heap.size + 1) (by omega) (hM.below hbW) (by omega) (by omega) (fit_law hR hft) ((hW.block _ b1.lt).trans b1) (l.map locE) (fun ps hs => locs_law hM hR hgd hft ps hs) J Jx hJ hY h0
      case ax =>
        rintro x a' _ A B' row ⟨Bx, hBx, hc, rfl⟩ hg hr
        refine ⟨Bx, hBx, (hg.block Bx (Array.getElem?_eq_some_iff.1 hc).1 (fun e => ?_)).trans hc, rfl⟩
        obtain ⟨_, o, ho, hcl⟩ := hr Bx e.symm
        rw [hc] at ho; cases ho; cases hcl
      case assign =>
        rintro lp pre x W K _ ⟨⟨⟨c0, c1⟩, hB⟩, hle⟩ hK
        have hs := hB.size
        have lt1 := c1.lt
        gi_wp2
        exact hK _ _ ((KeepsOthers.alloc _ _).from _) (kpL_g (World.grownBy_alloc _ _ none)) ⟨⟨⟨c0.alloc _, c1.alloc _⟩, hB.alloc hs _⟩, hle⟩ ⟨W.heap.size, by omega, heap_alloc_new _ _, rfl⟩
      case body =>
        rintro lp pre x a' W hl ⟨r, hr⟩ hok ⟨⟨⟨c0, c1⟩, hB⟩, hle⟩ ⟨Bx, hBx, hBc, rfl⟩
        have f0 := row_cells hBc 0
        have f1 := row_cells hBc 1
        simp at f0 f1
        have y0 := (hB.cell (p := ⟨w.heap.size, 0, none⟩) o0).trans x0
        have y6 := (hB.cell (p := ⟨Bn, 0, none⟩) o6).trans x6
        have q0 : Old w.heap.size W := Nat.lt_of_lt_of_le o0 hB.size
        have q6 : Old Bn W := Nat.lt_of_lt_of_le o6 hB.size
        have e0 := c0.cell
        have e0f := c0.frozen
        have q9 : Old w4.heap.size W := c0.lt
        obtain ⟨rest, hrest⟩ := hok
        have hpl : pre.length < l.length := by
          have := congrArg List.length hrest
          simp at this; omega
        have hx : locE l[pre.length] = x := by
          have := congrArg (·[pre.length]?) hrest
          simpa [hpl] using this.symm
        obtain ⟨b, off, rfl, hold, hcs⟩ := hrow (by omega)
        have g0 := (hB.cell (p := ⟨b, off + pre.length * 15 + 0, none⟩) hold.lt).trans (hcs pre.length hpl 0 (by omega))
        have g1 := (hB.cell (p := ⟨b, off + pre.length * 15 + 1, none⟩) hold.lt).trans (hcs pre.length hpl 1 (by omega))
        have kb : (pre.length : Int) < l.length := by omega
        have qn := run_neq_loc_same x.1 x.2
        have m1 : IntKind.i64.wrap ((pre.length : Int) + 1) = (pre.length : Int) + 1 := by rw [IntKind.wrap_i64]; omega
        have hmix : Try.prog.follows .mixedOrders = true := by kernel_rfl
        have hB9 := hB.size
        have lt1 := c1.lt
        subst hx
        clear hcs hrow hrest
        generalize l[pre.length] = e at *
        obtain ⟨eo, ef, y⟩ := e
        simp [locE] at g0 g1 f0 f1 qn
        have oB : Old Bx W := Old.of_cell f0
        have ob : Old b W := Old.of_cell g0
        by_cases hs : (pre.length : Int) = st
        · subst hs
          gi_wp2
          gi_region_with_o (fail)
          all_goals (
            gi_wp2
            exact ⟨(KeepsOthers.drew W).from _, ⟨Boxed.drew c0, hB.drew⟩, rfl⟩)
        · have hse : ((pre.length : Int) == st) = false := by simpa using hs
          gi_wp2
          gi_region_with_o (fail)
          all_goals (
            gi_wp2
            have b9 := c0.set (.int .i64 ((pre.length : Int) + 1))
            refine ⟨((KeepsOthers.setCell W _ _).trans (KeepsOthers.drew _)).from _, kpL_set c0 _, ⟨⟨?_, ?_⟩, ?_⟩, ?_⟩
            · rw [List.length_append]; simpa using Boxed.drew b9
            · exact Boxed.drew (Boxed.other (B' := w4.heap.size) c1 (by omega) _)
            · exact (hB.setCell (p := ⟨w4.heap.size, 0, none⟩) (by simp) _).drew
            · simp; omega)
      case done =>
        rintro D' ys W hD rfl ⟨_, hle⟩ _
        simp at hle
        omega
      case stop =>
        rintro D' id ys W hD ⟨⟨c0, hB⟩, rfl⟩ hKD
        have y0 := (hB.cell (p := ⟨w.heap.size, 0, none⟩) o0).trans x0
        have y1 := (hB.cell (p := ⟨w.heap.size + 1, 0, none⟩) o1).trans x1
        have hbx1 : Boxed W (w.heap.size + 1) 4 (.bool false) := (hB.block _ o1).trans HW4.out.b1
        have y1f := hbx1.frozen
        have q0 : Old w.heap.size W := Nat.lt_of_lt_of_le o0 hB.size
        have q1 : Old (w.heap.size + 1) W := Nat.lt_of_lt_of_le o1 hB.size
        have e0 := c0.cell
        have q9 : Old w4.heap.size W := c0.lt
        have hs := hB.size
        gi_wp2
        have hset := hbx1.set (.bool true)
        have hKD2 : (W.setCell ⟨w.heap.size + 1, 0, none⟩ (.bool true)).heap[D']? = some (.deferred (some [])) := (KeepsOthers.setCell W _ _).same D' _ hKD rfl
        refine ⟨by simp, .inl ⟨_, _, rfl, run_takeDeferred hKD2, ?_⟩⟩
        have hDD : D' ≠ w.heap.size + 1 := fun e => by
          subst e
          rw [show W.heap[w.heap.size + 1]? = _ from hbx1] at hKD
          cases hKD
        have hb' := hset.kept (grownBy_putObj' _ D' (.deferred none)) (by simpa using hDD.symm)
        have hc := hb'.cell
        have hBw := HW4.out.run.below
        have hBws := hBw.size
        refine ⟨.bool true, by simp [results, Try.results6, go_sem, hc], Gives.mk rfl (((hBw.trans (hB.mono hBws)).setCell (p := ⟨w.heap.size + 1, 0, none⟩) (by simp) (.bool true)).trans ?_)⟩
        exact (Below.refl w.heap.size _).grown (grownBy_putObj' _ D' _) (by simp; omega) (fun k e => by cases e; omega)

theorem locations_any (vo : Value) (L : List OpT) (st : Int) (w : World) (ho : OpsAt w.heap.size w vo L) (hb : ∀ e ∈ L, I64 e.1 ∧ I64 e.2.1) (hst : I64 st) :
    Calls Try.prog 6 #[vo, .int .i64 st] w (Gives (.bool true) w) :=
  (callsIn_wide (n := 7)).1 (locations_in vo L st w Fence.wide rfl 7 (Nat.le_refl _) ho hb hst)

end Go.Proofs.Ytioajmhfofmdoaa
