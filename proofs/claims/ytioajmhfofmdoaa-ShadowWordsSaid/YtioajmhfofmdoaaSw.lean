/- ShadowWords: the walk. -/
import Derived.Test.YtioajmhfofmdoaaAg
import Derived.Test.YtioajmhfofmdoaaAw
namespace Go.Proofs.Ytioajmhfofmdoaa
open Go.RowKit Go.Sort Go.Maps

/-- Between two changes. -/
structure Run (w wr : World) (B bm bp tk : Nat) (vn : Value) (a b : Int) (k n : Nat) (l : List Ent) : Prop where
  holds : Holds (· = tk) B wr bm bp tk n l
  ent : EntT wr vn l
  good : Good l
  fits : Fits l
  len : l.length ≤ k
  cnt : n ≤ k
  below : Below w.heap.size w wr
  lo : w.heap.size ≤ B
  at_ : wr.heap[w.heap.size]? = some (.cells #[.int .i64 a, .int .i64 b] 24 (0, 0))
theorem Run.gw {w wr : World} {B bm bp tk : Nat} {vn : Value} {a b : Int} {k n : Nat} {l : List Ent} (h : Run w wr B bm bp tk vn a b k n l) (q : Regrown) : Run w (gw wr q) B bm bp tk vn a b k n l :=
  ⟨h.holds.gw q, h.ent.below (gw_below wr q), h.good, h.fits, h.len, h.cnt, below_gw h.below h.below.size q, h.lo, (gw_heap _ _ _ (Array.getElem?_eq_some_iff.1 h.at_).1).trans h.at_⟩

set_option maxRecDepth 100000 in
set_option maxHeartbeats 2000000 in
theorem words_any (vo : Value) (L : List OpT) (a b : Int) (w : World) (ho : OpsAt w.heap.size w vo L) (hb : ∀ e ∈ L, I64 e.1 ∧ I64 e.2.1) (ha : I64 a ∧ I64 b) :
    Calls Try.prog 3 #[vo, locv a b] w (Gives (.bool true) w) := by
  have HO := Lib.hid ho
  have HBD := Lib.hid hb
  have HA := Lib.hid ha
  clear hb ha
  obtain ⟨ad, cap, rfl, hrow⟩ := ho
  have HR := Lib.hid hrow; clear hrow
  have hlen : L.length = L.length := rfl
  by_cases hgt : 60 < L.length
  · have hd : decide ((60 : Int) < (L.length : Int)) = true := by simp; omega
    go_enter Try.func3, Try.ntmps3
    go_wp2_with (go_at_call 9; refine (awake_any _).mono ?_; rintro e w1 ⟨rfl, p1, rfl⟩)
    go_ret; exact Gives.mk rfl (by repeat (first | exact Below.refl _ _ | refine below_gw ?_ (by simp; try omega) _ | refine Below.alloc ?_ (by simp; try omega) _ | refine Below.setCell ?_ (by simp; try omega) _ | refine Below.drew ?_))
  · have hd : decide ((60 : Int) < (L.length : Int)) = false := by simp; omega
    go_enter Try.func3, Try.ntmps3
    go_wp2_with (first | (go_at_call 9; refine (awake_any _).mono ?_; rintro e w1 ⟨rfl, p1, rfl⟩) | (go_at_call 10; refine Stop.here ?_))
    refine Stop.on ?_
    have hb0 : Below w.heap.size w (gw (w.alloc (.cells #[.int .i64 a, .int .i64 b] 24)) p1) := (by repeat (first | exact Below.refl _ _ | refine below_gw ?_ (by simp; try omega) _ | refine Below.alloc ?_ (by simp; try omega) _ | refine Below.setCell ?_ (by simp; try omega) _ | refine Below.drew ?_))
    have r0 : (gw (w.alloc (.cells #[.int .i64 a, .int .i64 b] 24)) p1).heap[w.heap.size]? = some (.cells #[.int .i64 a, .int .i64 b] 24 (0, 0)) := heap_newest _ _ _ _ rfl
    refine (newH_any _).mono ?_
    rintro e w1 ⟨bm, bp, tk, rfl, hb1, hm⟩
    have HRun := Lib.hid (show Run w w1 (gw (w.alloc (.cells #[.int .i64 a, .int .i64 b] 24)) p1).heap.size bm bp tk (.slice none 0 0) a b 0 0 [] from
      ⟨hm, ⟨⟨none, 0, rfl, fun h => absurd h (by simp)⟩, fun _ _ _ _ e => by cases e⟩, good_nil, fits_nil, by simp, by omega, hb0.trans (hb1.mono hb0.size), hb0.size, (hb1.block _ (Array.getElem?_eq_some_iff.1 r0).1).trans r0⟩)
    clear hb0 r0 hb1 hm
    generalize (gw (w.alloc (.cells #[.int .i64 a, .int .i64 b] 24)) p1).heap.size = B at *
    go_wp2
    go_loopw [6, 17] (fun vn i wr => ∃ (k n : Nat) (l : List Ent), k ≤ L.length ∧ i = .int .i64 k ∧ Run w wr B bm bp tk vn a b k n l) (fun _ i _ => L.length - (intOf i).toNat)
    case atStart => exact ⟨0, 0, [], by omega, rfl, HRun.out⟩
    case round =>
      obtain ⟨k, n, l, hk, rfl, hrun⟩ := hrel
      have HN := Lib.hid hrun
      clear hrun HRun
      by_cases hlt : k < L.length
      · have hops := HO.out.below HN.out.below
        obtain ⟨_, _, he, hops⟩ := hops
        cases he
        obtain ⟨bo, off, rfl, hbo, hold, hcs⟩ := hops (by omega)
        have hold' := hold.lt
        have f0 := hcs k hlt 0 (by omega)
        have f1 := hcs k hlt 1 (by omega)
        have f2 := hcs k hlt 2 (by omega)
        have f3 := hcs k hlt 3 (by omega)
        have f4 := hcs k hlt 4 (by omega)
        have f5 := hcs k hlt 5 (by omega)
        have f6 := hcs k hlt 6 (by omega)
        have f7 := hcs k hlt 7 (by omega)
        have f8 := hcs k hlt 8 (by omega)
        have f9 := hcs k hlt 9 (by omega)
        have f10 := hcs k hlt 10 (by omega)
        have f11 := hcs k hlt 11 (by omega)
        have f12 := hcs k hlt 12 (by omega)
        have f13 := hcs k hlt 13 (by omega)
        have f14 := hcs k hlt 14 (by omega)
        have f15 := hcs k hlt 15 (by omega)
        have kb : (k : Int) < L.length := by omega
        have hbd := Lib.hid (HBD.out _ (List.getElem_mem hlt))
        clear hcs hops
        generalize L[k] = e at *
        obtain ⟨o, f, x, d⟩ := e
        simp at f0 f1 f2 f3 f4 f5 f6 f7 f8 f9 f10 f11 f12 f13 f14 f15
        go_wp2_with (go_at_call 11; refine Stop.here ?_)
        refine Stop.on ?_
        have hw : Below wr.heap.size wr (wr.alloc (.cells (opC (o, f, x, d)).toArray 39)) := (by repeat (first | exact Below.refl _ _ | refine below_gw ?_ (by simp; try omega) _ | refine Below.alloc ?_ (by simp; try omega) _ | refine Below.setCell ?_ (by simp; try omega) _ | refine Below.drew ?_))
        have g1 := heap_alloc_at' wr (.cells (opC (o, f, x, d)).toArray 39) wr.heap.size rfl
        have h1 := HN.out.holds.below hw
        obtain ⟨es, ck, m1⟩ := h1.isMap
        refine (doH_any h1 o f x d hbd.out.1 hbd.out.2 (by have := HN.out.cnt; omega)).mono ?_
        rintro e w2 ⟨rfl, n2, hn2, h2, fr2, hb2⟩
        have HG1 := Lib.hid (fr2.row m1 g1 (by decide))
        have HA1 := Lib.hid (fr2.row m1 (((hw.block _ (Array.getElem?_eq_some_iff.1 HN.out.at_).1)).trans HN.out.at_) (by decide))
        have HE1 := Lib.hid (fr2.ent m1 (HN.out.ent.below hw))
        have HB1 := Lib.hid (HN.out.below.trans ((hw.mono HN.out.below.size).trans (hb2.mono HN.out.lo)))
        have HH1 := Lib.hid h2
        have HC1 := Lib.hid (show n2 ≤ k + 1 by have := HN.out.cnt; omega)
        clear hw g1 h1 m1 fr2 hb2 h2 hn2
        clear f0 f1 f2 f3 f4 f5 f6 f7 f8 f9 f10 f11 f12 f13 f14 f15
        generalize wr.heap.size = ob at *
        have g0 := row_cells HG1.out 0
        have g1 := row_cells HG1.out 1
        have g2 := row_cells HG1.out 2
        have g3 := row_cells HG1.out 3
        have g4 := row_cells HG1.out 4
        have g5 := row_cells HG1.out 5
        have g6 := row_cells HG1.out 6
        have g7 := row_cells HG1.out 7
        have g8 := row_cells HG1.out 8
        have g9 := row_cells HG1.out 9
        have g10 := row_cells HG1.out 10
        have g11 := row_cells HG1.out 11
        have g12 := row_cells HG1.out 12
        have g13 := row_cells HG1.out 13
        have g14 := row_cells HG1.out 14
        have g15 := row_cells HG1.out 15
        simp at g0 g1 g2 g3 g4 g5 g6 g7 g8 g9 g10 g11 g12 g13 g14 g15
        have og : Old ob _ := (Array.getElem?_eq_some_iff.1 HG1.out).1
        go_wp2_with (go_at_call 12; refine Stop.here ?_)
        refine Stop.on ?_
        refine (doR_any _ l o f x d _ HE1.out (by have := HN.out.len; omega)).mono ?_
        rintro e w3 ⟨v', rfl, hb3, he3⟩
        have HG3 := Lib.hid ((hb3.block _ (Array.getElem?_eq_some_iff.1 HG1.out).1).trans HG1.out)
        have HN3 := Lib.hid (show Run w w3 B bm bp tk v' a b (k + 1) n2 (doM l (chOf o f x d)) from
          ⟨HH1.out.below hb3, he3, good_do HN.out.good _ _ _ _, fits_do HN.out.fits _ _ _ _ hbd.out.1 hbd.out.2, by have := HN.out.len; have := do_len (l := l) o f x d; omega, HC1.out, HB1.out.trans (hb3.mono HB1.out.size), HN.out.lo, (hb3.block _ (Array.getElem?_eq_some_iff.1 HA1.out).1).trans HA1.out⟩)
        clear hb3 he3 HG1 HA1 HE1 HB1 HH1 HC1 HN
        clear g0 g1 g2 g3 g4 g5 g6 g7 g8 g9 g10 g11 g12 g13 g14 g15 og
        generalize doM l (chOf o f x d) = l3 at *
        have g0 := row_cells HG3.out 0
        have g1 := row_cells HG3.out 1
        simp at g0 g1
        have og : Old ob w3 := (Array.getElem?_eq_some_iff.1 HG3.out).1
        have HG := Lib.hid (fun q => getH_any (HN3.out.holds.gw q) HN3.out.good o f hbd.out.1 hbd.out.2)
        have HGR := Lib.hid (fun q => getR_any v' l3 o f _ ((HN3.out.ent.1).gw q) (by have := HN3.out.len; omega))
        have qn := run_neq_wd_same (getM l3 o f)
        generalize getM l3 o f = g at *
        go_wp2
        refine wp_region_gw (by kernel_rfl) (by kernel_rfl) ?_
        repeat (quiet_step (first | (go_at_call 13; exact Gives.call (HG.out _)) | (go_at_call 14; exact Gives.call (HGR.out _))))
        refine wpQuiet_nil ?_
        intro _ hw'
        obtain ⟨p2, hw''⟩ := hw'
        subst hw''
        go_wp2
        go_roundw
        case rel => exact ⟨k + 1, n2, l3, by omega, by go_num, HN3.out.gw p2⟩
        case measure => simp [intOf]; omega
      · have hkl : k = L.length := by omega
        have g0 := row_cells HN.out.at_ 0
        have g1 := row_cells HN.out.at_ 1
        simp at g0 g1
        have og : Old w.heap.size wr := (Array.getElem?_eq_some_iff.1 HN.out.at_).1
        have HQ := Lib.hid (fun q => agrees_any (HN.out.holds.gw q) HN.out.good HN.out.fits (HN.out.ent.below (gw_below wr q)) (by have := HN.out.len; omega) (HO.out.below (below_gw HN.out.below HN.out.below.size q)) (by omega) HBD.out)
        have HG := Lib.hid (fun q => getH_any (HN.out.holds.gw q) HN.out.good a b HA.out.1 HA.out.2)
        have HGR := Lib.hid (fun q => getR_any _ l a b _ ((HN.out.ent.1).gw q) (by have := HN.out.len; omega))
        have qn : ∀ w, (binOp .eql 37 (wv (getM l a b)) (wv (getM l a b))).run Try.prog w = .ok (.bool true) w := fun w => by
          have := run_eql_wd (getM l a b) (getM l a b) w
          rwa [(wdE_iff _ _).2 rfl] at this
        generalize getM l a b = g at *
        go_wp2
        refine wp_region_gw (by kernel_rfl) (by kernel_rfl) ?_
        repeat (quiet_step (first | (go_at_call 15; exact Gives.call (HQ.out _)) | (go_at_call 13; exact Gives.call (HG.out _)) | (go_at_call 14; exact Gives.call (HGR.out _))))
        refine wpQuiet_nil ?_
        intro _ hw'
        obtain ⟨p2, hw''⟩ := hw'
        subst hw''
        go_wp2
        go_ret
        exact Gives.mk rfl (below_gw HN.out.below HN.out.below.size p2)

end Go.Proofs.Ytioajmhfofmdoaa
