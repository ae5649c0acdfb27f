/- ShadowPages, ShadowClear: the walks. -/
import Derived.Test.YtioajmhfofmdoaaAg
import Derived.Test.YtioajmhfofmdoaaAw
import Derived.Test.YtioajmhfofmdoaaLi
namespace Go.Proofs.Ytioajmhfofmdoaa
open Go.RowKit Go.Sort Go.Maps

/-- Between two changes. -/
structure Run0 (L : List OpT) (w wr : World) (B bm bp tk : Nat) (vn : Value) (k n : Nat) (l : List Ent) : Prop where
  holds : Holds (· = tk) B wr bm bp tk n l
  ent : EntT wr vn l
  good : Good l
  fits : Fits l
  len : l.length ≤ k
  cnt : n ≤ k
  below : Below w.heap.size w wr
  lo : w.heap.size ≤ B
  obs : ∀ e ∈ l, ∃ (j : Nat) (p : OpT), j < k ∧ L[j]? = some p ∧ p.1 = e.1
theorem Run0.gw {L : List OpT} {w wr : World} {B bm bp tk : Nat} {vn : Value} {k n : Nat} {l : List Ent} (h : Run0 L w wr B bm bp tk vn k n l) (q : Regrown) : Run0 L w (gw wr q) B bm bp tk vn k n l :=
  ⟨h.holds.gw q, h.ent.below (gw_below wr q), h.good, h.fits, h.len, h.cnt, below_gw h.below h.below.size q, h.lo, h.obs⟩
theorem obs_do {L : List OpT} {l : List Ent} {k : Nat} {o f : Int} {x : Wd} {d : Bool} (h : ∀ e ∈ l, ∃ (j : Nat) (p : OpT), j < k ∧ L[j]? = some p ∧ p.1 = e.1) (hk : L[k]? = some (o, f, x, d)) :
    ∀ e ∈ doM l (chOf o f x d), ∃ (j : Nat) (p : OpT), j < k + 1 ∧ L[j]? = some p ∧ p.1 = e.1 := by
  intro e he
  have old : ∀ e ∈ l, ∃ (j : Nat) (p : OpT), j < k + 1 ∧ L[j]? = some p ∧ p.1 = e.1 := fun e he => by
    obtain ⟨j, p, h1, h2⟩ := h e he
    exact ⟨j, p, by omega, h2⟩
  cases d
  · change e ∈ setM l o f x at he
    unfold setM at he
    split at he
    · exact old e he
    · rcases mem_setGo _ _ _ _ _ _ he with ⟨rfl, _⟩ | ⟨e1, _⟩
      · exact ⟨k, _, by omega, hk, rfl⟩
      · exact old e e1
  · change e ∈ clearM l o at he
    exact old e (List.mem_filter.1 he).1

theorem Below.of_fr {B : Nat} {w wr w2 : World} (h : Below w.heap.size w wr) (lo : w.heap.size ≤ B) (hb : Below B wr w2) : Below w.heap.size w w2 := h.trans (hb.mono lo)

set_option maxRecDepth 100000 in
set_option maxHeartbeats 2000000 in
theorem clears_any (vo : Value) (L : List OpT) (ob : Int) (w : World) (ho : OpsAt w.heap.size w vo L) (hb : ∀ e ∈ L, I64 e.1 ∧ I64 e.2.1) :
    Calls Try.prog 5 #[vo, .int .i64 ob] w (Gives (.bool true) w) := by
  have HO := Lib.hid ho
  have HBD := Lib.hid hb
  clear hb
  obtain ⟨ad, cap, rfl, hrow⟩ := ho
  have HR := Lib.hid hrow; clear hrow
  by_cases hgt : 60 < L.length
  · have hd : decide ((60 : Int) < (L.length : Int)) = true := by simp; omega
    go_enter Try.func5, Try.ntmps5
    go_wp2_with (go_at_call 9; refine (awake_any _).mono ?_; rintro e w1 ⟨rfl, p1, rfl⟩)
    go_ret; exact Gives.mk rfl (by repeat (first | exact Below.refl _ _ | refine below_gw ?_ (by simp; try omega) _ | refine Below.alloc ?_ (by simp; try omega) _ | refine Below.setCell ?_ (by simp; try omega) _ | refine Below.drew ?_))
  have hd : decide ((60 : Int) < (L.length : Int)) = false := by simp; omega
  go_enter Try.func5, Try.ntmps5
  go_wp2_with (first | (go_at_call 9; refine (awake_any _).mono ?_; rintro e w1 ⟨rfl, p1, rfl⟩) | (go_at_call 10; refine Stop.here ?_))
  refine Stop.on ?_
  have hb0 : Below w.heap.size w (gw w p1) := gw_below w p1
  refine (newH_any _).mono ?_
  rintro e w1 ⟨bm, bp, tk, rfl, hb1, hm⟩
  have HRun := Lib.hid (show Run0 L w w1 (gw w p1).heap.size bm bp tk (.slice none 0 0) 0 0 [] from
    ⟨hm, ⟨⟨none, 0, rfl, fun h => absurd h (by simp)⟩, fun _ _ _ _ e => by cases e⟩, good_nil, fits_nil, by simp, by omega, hb0.trans (hb1.mono hb0.size), hb0.size, fun _ h => by cases h⟩)
  clear hb0 hb1 hm
  generalize (gw w p1).heap.size = B at *
  go_wp2
  go_loopw [6, 17] (fun vn i wr => ∃ (k n : Nat) (l : List Ent), k ≤ L.length ∧ i = .int .i64 k ∧ Run0 L w wr B bm bp tk vn k n l) (fun _ i _ => L.length - (intOf i).toNat)
  case atStart => exact ⟨0, 0, [], by omega, rfl, HRun.out⟩
  case round =>
    obtain ⟨k, n, l, hk, rfl, hrun⟩ := hrel
    by_cases hlt : k < L.length
    · have HN := Lib.hid hrun
      clear hrun HRun
      have hops := HO.out.below HN.out.below
      obtain ⟨_, _, he, hops⟩ := hops
      cases he
      obtain ⟨bo, off, rfl, hbo, hold, hcs⟩ := hops (by omega)
      have hold' := hold.lt
      have f0 := hcs k hlt 0 (by omega)
      have f1 := hcs k hlt 1 (by omega)
      have f2 := hcs k hlt 2 (by omega)
      have f3 := hcs k hlt 3 (by omega)
      have f4 := hcs k hlt 4 (by omega)
      have f5 := hcs k hlt 5 (by omega)
      have f6 := hcs k hlt 6 (by omega)
      have f7 := hcs k hlt 7 (by omega)
      have f8 := hcs k hlt 8 (by omega)
      have f9 := hcs k hlt 9 (by omega)
      have f10 := hcs k hlt 10 (by omega)
      have f11 := hcs k hlt 11 (by omega)
      have f12 := hcs k hlt 12 (by omega)
      have f13 := hcs k hlt 13 (by omega)
      have f14 := hcs k hlt 14 (by omega)
      have f15 := hcs k hlt 15 (by omega)
      have kb : (k : Int) < L.length := by omega
      have hbd := Lib.hid (HBD.out _ (List.getElem_mem hlt))
      have hLk := Lib.hid (show L[k]? = some L[k] from List.getElem?_eq_getElem hlt)
      clear hcs hops
      generalize L[k] = e at *
      obtain ⟨o, f, x, d⟩ := e
      simp at f0 f1 f2 f3 f4 f5 f6 f7 f8 f9 f10 f11 f12 f13 f14 f15
      go_wp2_with (go_at_call 11; refine Stop.here ?_)
      refine Stop.on ?_
      have hw : Below wr.heap.size wr (wr.alloc (.cells (opC (o, f, x, d)).toArray 39)) := (by repeat (first | exact Below.refl _ _ | refine below_gw ?_ (by simp; try omega) _ | refine Below.alloc ?_ (by simp; try omega) _ | refine Below.setCell ?_ (by simp; try omega) _ | refine Below.drew ?_))
      have g1 := heap_alloc_at' wr (.cells (opC (o, f, x, d)).toArray 39) wr.heap.size rfl
      have h1 := HN.out.holds.below hw
      obtain ⟨es, ck, m1⟩ := h1.isMap
      refine (doH_any h1 o f x d hbd.out.1 hbd.out.2 (by have := HN.out.cnt; omega)).mono ?_
      rintro e w2 ⟨rfl, n2, hn2, h2, fr2, hb2⟩
      have HG1 := Lib.hid (fr2.row m1 g1 (by decide))
      have HE1 := Lib.hid (fr2.ent m1 (HN.out.ent.below hw))
      have HB1 := Lib.hid (HN.out.below.trans ((hw.mono HN.out.below.size).trans (hb2.mono HN.out.lo)))
      have HH1 := Lib.hid h2
      have HC1 := Lib.hid (show n2 ≤ k + 1 by have := HN.out.cnt; omega)
      clear hw g1 h1 m1 fr2 hb2 h2 hn2
      clear f0 f1 f2 f3 f4 f5 f6 f7 f8 f9 f10 f11 f12 f13 f14 f15
      generalize wr.heap.size = ob at *
      have g0 := row_cells HG1.out 0
      have g1 := row_cells HG1.out 1
      have g2 := row_cells HG1.out 2
      have g3 := row_cells HG1.out 3
      have g4 := row_cells HG1.out 4
      have g5 := row_cells HG1.out 5
      have g6 := row_cells HG1.out 6
      have g7 := row_cells HG1.out 7
      have g8 := row_cells HG1.out 8
      have g9 := row_cells HG1.out 9
      have g10 := row_cells HG1.out 10
      have g11 := row_cells HG1.out 11
      have g12 := row_cells HG1.out 12
      have g13 := row_cells HG1.out 13
      have g14 := row_cells HG1.out 14
      have g15 := row_cells HG1.out 15
      simp at g0 g1 g2 g3 g4 g5 g6 g7 g8 g9 g10 g11 g12 g13 g14 g15
      have og : Old ob _ := (Array.getElem?_eq_some_iff.1 HG1.out).1
      go_wp2_with (go_at_call 12; refine Stop.here ?_)
      refine Stop.on ?_
      refine (doR_any _ l o f x d _ HE1.out (by have := HN.out.len; omega)).mono ?_
      rintro e w3 ⟨v', rfl, hb3, he3⟩
      have HN3 := Lib.hid (show Run0 L w w3 B bm bp tk v' (k + 1) n2 (doM l (chOf o f x d)) from
        ⟨HH1.out.below hb3, he3, good_do HN.out.good _ _ _ _, fits_do HN.out.fits _ _ _ _ hbd.out.1 hbd.out.2, by have := HN.out.len; have := do_len (l := l) o f x d; omega, HC1.out, HB1.out.trans (hb3.mono HB1.out.size), HN.out.lo, obs_do HN.out.obs hLk.out⟩)
      clear hb3 he3 HG1 HE1 HB1 HH1 HC1 HN
      clear g0 g1 g2 g3 g4 g5 g6 g7 g8 g9 g10 g11 g12 g13 g14 g15 og
      generalize doM l (chOf o f x d) = l3 at *
      go_wp2
      go_roundw
      case rel => exact ⟨k + 1, n2, l3, by omega, by go_num, HN3.out⟩
      case measure => simp [intOf]; omega
    · have hkl : k = L.length := by omega
      have HN := Lib.hid hrun
      clear hrun HRun
      go_wp2_with (go_at_call 18; refine Stop.here ?_)
      refine Stop.on ?_
      obtain ⟨es, ck, m1⟩ := HN.out.holds.isMap
      refine (clearH_any HN.out.holds ob).mono ?_
      rintro e w2 ⟨rfl, n2, hn2, h2, fr2, hb2⟩
      have HE2 := Lib.hid (fr2.ent m1 HN.out.ent)
      have HB2 := Lib.hid (HN.out.below.trans (hb2.mono HN.out.lo))
      have HH2 := Lib.hid h2
      have HC2 := Lib.hid (show n2 ≤ k + 1 by have := HN.out.cnt; omega)
      clear m1 fr2 hb2 h2 hn2
      go_wp2_with (go_at_call 20; refine Stop.here ?_)
      refine Stop.on ?_
      refine (clearR_any _ l ob _ HE2.out.1 (by have := HN.out.len; omega)).mono ?_
      rintro e w3 ⟨v', rfl, hout⟩
      have hb3 := hout.below
      have HE3 := Lib.hid (entT_of_own hout.own)
      have HH3 := Lib.hid (HH2.out.below hb3)
      have HB3 := Lib.hid (HB2.out.trans (hb3.mono HB2.out.size))
      have HO3 := Lib.hid (HO.out.below HB3.out)
      have hgood := good_clear HN.out.good ob
      have hfit := fits_clear HN.out.fits ob
      have hln : (clearM l ob).length ≤ 1000 := by
        have := List.length_filter_le (fun e : Ent => !(e.1 == ob)) l
        have := HN.out.len
        unfold clearM; omega
      have HQ := Lib.hid (agrees_any HH3.out hgood hfit HE3.out hln HO3.out (by omega) HBD.out)
      have HL := Lib.hid (fun q => listed_any (HH3.out.gw q) hgood hfit (by have := HC2.out; omega) (HE3.out.below (gw_below w3 q)) hln)
      clear hb3 hout
      go_wp2_with (first | (go_at_call 15; refine (HQ.out).mono ?_; rintro e w1 ⟨rfl, p3, rfl⟩) | (go_at_call 19; refine (HL.out _).mono ?_; rintro e w1 ⟨rfl, p4, rfl⟩))
      go_ret
      exact Gives.mk rfl (below_gw (below_gw HB3.out HB3.out.size p3) (by have := HB3.out.size; simp; omega) p4)

end Go.Proofs.Ytioajmhfofmdoaa
