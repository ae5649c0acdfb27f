/- ShadowPages: the walk. -/
import Derived.Test.YtioajmhfofmdoaaSp
namespace Go.Proofs.Ytioajmhfofmdoaa
open Go.RowKit Go.Sort Go.Maps

/-- While the objects are cleared. -/
structure Run1 (L : List OpT) (w wr : World) (B bm bp tk : Nat) (k n : Nat) (l : List Ent) : Prop where
  holds : Holds (· = tk) B wr bm bp tk n l
  good : Good l
  fits : Fits l
  cnt : n ≤ L.length + k
  below : Below w.heap.size w wr
  lo : w.heap.size ≤ B
  obs : ∀ e ∈ l, ∃ (j : Nat) (p : OpT), k ≤ j ∧ L[j]? = some p ∧ p.1 = e.1
theorem Run0.toRun1 {L : List OpT} {w wr : World} {B bm bp tk : Nat} {vn : Value} {k n : Nat} {l : List Ent} (h : Run0 L w wr B bm bp tk vn k n l) (hk : k ≤ L.length) : Run1 L w wr B bm bp tk 0 n l :=
  ⟨h.holds, h.good, h.fits, by have := h.cnt; omega, h.below, h.lo, fun e he => by obtain ⟨j, p, _, h2⟩ := h.obs e he; exact ⟨j, p, by omega, h2⟩⟩
theorem obs_clear {L : List OpT} {l : List Ent} {k : Nat} {o f : Int} {x : Wd} {d : Bool} (h : ∀ e ∈ l, ∃ (j : Nat) (p : OpT), k ≤ j ∧ L[j]? = some p ∧ p.1 = e.1) (hk : L[k]? = some (o, f, x, d)) :
    ∀ e ∈ clearM l o, ∃ (j : Nat) (p : OpT), k + 1 ≤ j ∧ L[j]? = some p ∧ p.1 = e.1 := by
  intro e he
  obtain ⟨h1, h2⟩ := List.mem_filter.1 he
  obtain ⟨j, p, h3, h4, h5⟩ := h e h1
  refine ⟨j, p, ?_, h4, h5⟩
  by_cases e : j = k
  · subst e
    rw [hk] at h4; cases h4
    simp [h5.symm] at h2
  · omega
theorem Run1.empty {L : List OpT} {w wr : World} {B bm bp tk : Nat} {n : Nat} {l : List Ent} (h : Run1 L w wr B bm bp tk L.length n l) : l = [] := by
  cases l with
  | nil => rfl
  | cons e r =>
    obtain ⟨j, p, h1, h2, _⟩ := h.obs e (by simp)
    have := (List.getElem?_eq_some_iff.1 h2).1
    omega

set_option maxRecDepth 100000 in
set_option maxHeartbeats 2000000 in
theorem pages_any (vo : Value) (L : List OpT) (w : World) (ho : OpsAt w.heap.size w vo L) (hb : ∀ e ∈ L, I64 e.1 ∧ I64 e.2.1) :
    Calls Try.prog 4 #[vo] w (Gives (.bool true) w) := by
  have HO := Lib.hid ho
  have HBD := Lib.hid hb
  clear hb
  obtain ⟨ad, cap, rfl, hrow⟩ := ho
  have HR := Lib.hid hrow; clear hrow
  by_cases hgt : 60 < L.length
  · have hd : decide ((60 : Int) < (L.length : Int)) = true := by simp; omega
    go_enter Try.func4, Try.ntmps4
    go_wp2_with (go_at_call 9; refine (awake_any _).mono ?_; rintro e w1 ⟨rfl, p1, rfl⟩)
    go_ret; exact Gives.mk rfl (by repeat (first | exact Below.refl _ _ | refine below_gw ?_ (by simp; try omega) _ | refine Below.alloc ?_ (by simp; try omega) _ | refine Below.setCell ?_ (by simp; try omega) _ | refine Below.drew ?_))
  have hd : decide ((60 : Int) < (L.length : Int)) = false := by simp; omega
  go_enter Try.func4, Try.ntmps4
  go_wp2_with (first | (go_at_call 9; refine (awake_any _).mono ?_; rintro e w1 ⟨rfl, p1, rfl⟩) | (go_at_call 10; refine Stop.here ?_))
  refine Stop.on ?_
  have hb0 : Below w.heap.size w (gw w p1) := gw_below w p1
  refine (newH_any _).mono ?_
  rintro e w1 ⟨bm, bp, tk, rfl, hb1, hm⟩
  have HRun := Lib.hid (show Run0 L w w1 (gw w p1).heap.size bm bp tk (.slice none 0 0) 0 0 [] from
    ⟨hm, ⟨⟨none, 0, rfl, fun h => absurd h (by simp)⟩, fun _ _ _ _ e => by cases e⟩, good_nil, fits_nil, by simp, by omega, hb0.trans (hb1.mono hb0.size), hb0.size, fun _ h => by cases h⟩)
  clear hb0 hb1 hm
  generalize (gw w p1).heap.size = B at *
  go_wp2
  go_loopw [4, 17] (fun vn i wr => ∃ (k n : Nat) (l : List Ent), k ≤ L.length ∧ i = .int .i64 k ∧ Run0 L w wr B bm bp tk vn k n l) (fun _ i _ => L.length - (intOf i).toNat)
  case atStart => exact ⟨0, 0, [], by omega, rfl, HRun.out⟩
  case round =>
    obtain ⟨k, n, l, hk, rfl, hrun⟩ := hrel
    by_cases hlt : k < L.length
    · as_aux_lemma =>
      have HN := Lib.hid hrun
      clear hrun HRun
      have hops := HO.out.below HN.out.below
      obtain ⟨_, _, he, hops⟩ := hops
      cases he
      obtain ⟨bo, off, rfl, hbo, hold, hcs⟩ := hops (by omega)
      have hold' := hold.lt
      have f0 := hcs k hlt 0 (by omega)
      have f1 := hcs k hlt 1 (by omega)
      have f2 := hcs k hlt 2 (by omega)
      have f3 := hcs k hlt 3 (by omega)
      have f4 := hcs k hlt 4 (by omega)
      have f5 := hcs k hlt 5 (by omega)
      have f6 := hcs k hlt 6 (by omega)
      have f7 := hcs k hlt 7 (by omega)
      have f8 := hcs k hlt 8 (by omega)
      have f9 := hcs k hlt 9 (by omega)
      have f10 := hcs k hlt 10 (by omega)
      have f11 := hcs k hlt 11 (by omega)
      have f12 := hcs k hlt 12 (by omega)
      have f13 := hcs k hlt 13 (by omega)
      have f14 := hcs k hlt 14 (by omega)
      have f15 := hcs k hlt 15 (by omega)
      have kb : (k : Int) < L.length := by omega
      have hbd := Lib.hid (HBD.out _ (List.getElem_mem hlt))
      have hLk := Lib.hid (show L[k]? = some L[k] from List.getElem?_eq_getElem hlt)
      clear hcs hops
      generalize L[k] = e at *
      obtain ⟨o, f, x, d⟩ := e
      simp at f0 f1 f2 f3 f4 f5 f6 f7 f8 f9 f10 f11 f12 f13 f14 f15
      go_wp2_with (go_at_call 11; refine Stop.here ?_)
      refine Stop.on ?_
      have hw : Below wr.heap.size wr (wr.alloc (.cells (opC (o, f, x, d)).toArray 39)) := (by repeat (first | exact Below.refl _ _ | refine below_gw ?_ (by simp; try omega) _ | refine Below.alloc ?_ (by simp; try omega) _ | refine Below.setCell ?_ (by simp; try omega) _ | refine Below.drew ?_))
      have g1 := heap_alloc_at' wr (.cells (opC (o, f, x, d)).toArray 39) wr.heap.size rfl
      have h1 := HN.out.holds.below hw
      obtain ⟨es, ck, m1⟩ := h1.isMap
      refine (doH_any h1 o f x d hbd.out.1 hbd.out.2 (by have := HN.out.cnt; omega)).mono ?_
      rintro e w2 ⟨rfl, n2, hn2, h2, fr2, hb2⟩
      have HG1 := Lib.hid (fr2.row m1 g1 (by decide))
      have HE1 := Lib.hid (fr2.ent m1 (HN.out.ent.below hw))
      have HB1 := Lib.hid (HN.out.below.trans ((hw.mono HN.out.below.size).trans (hb2.mono HN.out.lo)))
      have HH1 := Lib.hid h2
      have HC1 := Lib.hid (show n2 ≤ k + 1 by have := HN.out.cnt; omega)
      clear hw g1 h1 m1 fr2 hb2 h2 hn2
      clear f0 f1 f2 f3 f4 f5 f6 f7 f8 f9 f10 f11 f12 f13 f14 f15
      generalize wr.heap.size = ob at *
      have g0 := row_cells HG1.out 0
      have g1 := row_cells HG1.out 1
      have g2 := row_cells HG1.out 2
      have g3 := row_cells HG1.out 3
      have g4 := row_cells HG1.out 4
      have g5 := row_cells HG1.out 5
      have g6 := row_cells HG1.out 6
      have g7 := row_cells HG1.out 7
      have g8 := row_cells HG1.out 8
      have g9 := row_cells HG1.out 9
      have g10 := row_cells HG1.out 10
      have g11 := row_cells HG1.out 11
      have g12 := row_cells HG1.out 12
      have g13 := row_cells HG1.out 13
      have g14 := row_cells HG1.out 14
      have g15 := row_cells HG1.out 15
      simp at g0 g1 g2 g3 g4 g5 g6 g7 g8 g9 g10 g11 g12 g13 g14 g15
      have og : Old ob _ := (Array.getElem?_eq_some_iff.1 HG1.out).1
      go_wp2_with (go_at_call 12; refine Stop.here ?_)
      refine Stop.on ?_
      refine (doR_any _ l o f x d _ HE1.out (by have := HN.out.len; omega)).mono ?_
      rintro e w3 ⟨v', rfl, hb3, he3⟩
      have HN3 := Lib.hid (show Run0 L w w3 B bm bp tk v' (k + 1) n2 (doM l (chOf o f x d)) from
        ⟨HH1.out.below hb3, he3, good_do HN.out.good _ _ _ _, fits_do HN.out.fits _ _ _ _ hbd.out.1 hbd.out.2, by have := HN.out.len; have := do_len (l := l) o f x d; omega, HC1.out, HB1.out.trans (hb3.mono HB1.out.size), HN.out.lo, obs_do HN.out.obs hLk.out⟩)
      clear hb3 he3 HG1 HE1 HB1 HH1 HC1 HN
      clear g0 g1 g2 g3 g4 g5 g6 g7 g8 g9 g10 g11 g12 g13 g14 g15 og
      generalize doM l (chOf o f x d) = l3 at *
      have HP := Lib.hid (pagesH_any HN3.out.holds HN3.out.good HN3.out.fits)
      have HPR := Lib.hid (fun q => pagesR_any v' l3 _ ((HN3.out.ent.1).gw q) (by have := HN3.out.len; omega) (fun e he => ⟨(HN3.out.good.usable e he).2, (HN3.out.fits e he).2⟩))
      generalize (pagesK l3 l3.length) = g at *
      go_wp2_with (first | (go_at_call 16; refine (HP.out).mono ?_; rintro e w1 ⟨rfl, p2, rfl⟩) | (go_at_call 17; refine (HPR.out _).mono ?_; rintro e w1 ⟨rfl, p3, rfl⟩))
      go_roundw
      case rel => exact ⟨k + 1, n2, l3, by omega, by go_num, (HN3.out.gw p2).gw p3⟩
      case measure => simp [intOf]; omega
    · have hkl : k = L.length := by omega
      have HN := Lib.hid (hrun.toRun1 hk)
      subst hkl
      clear hrun HRun hlt
      go_wp2
      go_loopw [35] (fun i wr => ∃ (k n : Nat) (l : List Ent), k ≤ L.length ∧ i = .int .i64 k ∧ Run1 L w wr B bm bp tk k n l) (fun i _ => L.length - (intOf i).toNat)
      case atStart => exact ⟨0, n, l, by omega, rfl, HN.out⟩
      case round =>
        obtain ⟨k2, n2, l2, hk2, rfl, hrun2⟩ := hrel
        have HN2 := Lib.hid hrun2
        clear hrun2 HN
        by_cases hlt : k2 < L.length
        · as_aux_lemma =>
          have hops := HO.out.below HN2.out.below
          obtain ⟨_, _, he, hops⟩ := hops
          cases he
          obtain ⟨bo, off, rfl, hbo, hold, hcs⟩ := hops (by omega)
          have hold' := hold.lt
          have f0 := hcs k2 hlt 0 (by omega)
          have f1 := hcs k2 hlt 1 (by omega)
          have f2 := hcs k2 hlt 2 (by omega)
          have f3 := hcs k2 hlt 3 (by omega)
          have f4 := hcs k2 hlt 4 (by omega)
          have f5 := hcs k2 hlt 5 (by omega)
          have f6 := hcs k2 hlt 6 (by omega)
          have f7 := hcs k2 hlt 7 (by omega)
          have f8 := hcs k2 hlt 8 (by omega)
          have f9 := hcs k2 hlt 9 (by omega)
          have f10 := hcs k2 hlt 10 (by omega)
          have f11 := hcs k2 hlt 11 (by omega)
          have f12 := hcs k2 hlt 12 (by omega)
          have f13 := hcs k2 hlt 13 (by omega)
          have f14 := hcs k2 hlt 14 (by omega)
          have f15 := hcs k2 hlt 15 (by omega)
          have kb : (k2 : Int) < L.length := by omega
          have hLk := Lib.hid (show L[k2]? = some L[k2] from List.getElem?_eq_getElem hlt)
          clear hcs hops
          generalize L[k2] = e at *
          obtain ⟨o, f, x, d⟩ := e
          simp at f0 f1 f2 f3 f4 f5 f6 f7 f8 f9 f10 f11 f12 f13 f14 f15
          go_wp2_with (go_at_call 18; refine Stop.here ?_)
          refine Stop.on ?_
          have hw := (show Below wr.heap.size wr (wr.alloc (.cells (opC (o, f, x, d)).toArray 39)) from (by repeat (first | exact Below.refl _ _ | refine below_gw ?_ (by simp; try omega) _ | refine Below.alloc ?_ (by simp; try omega) _ | refine Below.setCell ?_ (by simp; try omega) _ | refine Below.drew ?_)))
          refine (clearH_any (HN2.out.holds.below hw) o).mono ?_
          rintro e w2 ⟨rfl, n3, hn3, h2, fr2, hb2⟩
          have HN3 := Lib.hid (show Run1 L w w2 B bm bp tk (k2 + 1) n3 (clearM l2 o) from
            ⟨h2, good_clear HN2.out.good o, fits_clear HN2.out.fits o, by have := HN2.out.cnt; omega, (HN2.out.below.trans (hw.mono HN2.out.below.size)).trans (hb2.mono HN2.out.lo), HN2.out.lo, obs_clear HN2.out.obs hLk.out⟩)
          clear hw h2 fr2 hb2
          go_wp2
          go_roundw
          case rel => exact ⟨k2 + 1, n3, _, by omega, by go_num, HN3.out⟩
          case measure => simp [intOf]; omega
        · as_aux_lemma =>
          have hkl2 : k2 = L.length := by omega
          subst hkl2
          have hl2 := HN2.out.empty
          subst hl2
          have HP := Lib.hid (pagesH_any HN2.out.holds HN2.out.good HN2.out.fits)
          have HL := Lib.hid (fun q => listed_any (HN2.out.holds.gw q) HN2.out.good HN2.out.fits (by have := HN2.out.cnt; omega) (show EntT (gw _ q) (.slice none 0 0) [] from ⟨⟨none, 0, rfl, fun h => absurd h (by simp)⟩, fun _ _ _ _ e => by cases e⟩) (by simp))
          go_wp2_with (first | (go_at_call 16; refine (HP.out).mono ?_; rintro e w1 ⟨rfl, p2, rfl⟩) | (go_at_call 19; refine (HL.out _).mono ?_; rintro e w1 ⟨rfl, p3, rfl⟩))
          go_ret
          exact Gives.mk rfl (below_gw (below_gw HN2.out.below HN2.out.below.size p2) (by have := HN2.out.below.size; simp; omega) p3)

end Go.Proofs.Ytioajmhfofmdoaa
