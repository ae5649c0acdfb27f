/- WakeupInitialsMatchReference: the walk. -/
import Derived.Test.YtmgiojkdcpolfaaTw
import Derived.Test.YtmgiojkdcpolfaaIt
namespace Go.Proofs.Ytmgiojkdcpolfaa
open Go.RowKit Go.Sort PT

theorem WoPost.view {l : List PS} {x : PS} {w w' : World} {e : Ending} {ad : Option Addr} (h : WoPost (wo l x) w e w') (hs : Sts w ad l) (hl : l.length ≤ 900) :
    ∃ a c, e = .returned (.tuple #[.slice a ((wo l x).getD []).length c, .bool (wo l x).isSome]) ∧ Below w.heap.size w w' ∧ Sts w' a ((wo l x).getD []) ∧ ((wo l x).getD []).length ≤ 900 := by
  obtain ⟨v, b, rfl, hb, hm⟩ := h
  cases hw : wo l x with
  | none =>
    rw [hw] at hm
    obtain ⟨rfl, rfl⟩ := hm
    exact ⟨none, 0, rfl, hb, ⟨Row.nil _, fun p hp => by cases hp⟩, by simp⟩
  | some r =>
    rw [hw] at hm
    obtain ⟨rfl, ho⟩ := hm
    obtain ⟨a, c, rfl, _, _⟩ := own_val ho
    exact ⟨a, c, rfl, hb, ⟨row_own stC_len ho rfl, fun p hp => (hs.below hb).rd p (wo_sub hw p hp)⟩, by have := wo_len hw; simp; omega⟩
theorem GivesO.view {α : Type} {T : TypeId} {n : Nat} {f : α → List Value} {l : List α} {w w' : World} {e : Ending} (hf : ∀ x, (f x).length = n) (h : GivesO T n f l w e w') :
    ∃ a c, e = .returned (.slice a l.length c) ∧ Below w.heap.size w w' ∧ Row n f w' a l := by
  obtain ⟨v, rfl, ho, hb⟩ := h
  obtain ⟨a, c, rfl, _, _⟩ := own_val ho
  exact ⟨a, c, rfl, hb, row_own hf ho rfl⟩
/-- The box of x behind a grown world. -/
structure IM (w W : World) (x : PS) : Prop where
  below : Below w.heap.size w W
  box : W.heap[w.heap.size]? = some (.cells (stC x).toArray 30 (0, 0))
theorem IM.then {w W W' : World} {x : PS} (h : IM w W x) (hb : Below W.heap.size W W') : IM w W' x := by
  refine ⟨h.below.trans (hb.mono h.below.size), ?_⟩
  obtain ⟨p, rfl⟩ := gw_of_below hb
  exact (gw_heap _ _ _ (Array.getElem?_eq_some_iff.1 h.box).1).trans h.box
theorem IM.new (w : World) (x : PS) : IM w (w.alloc (.cells (stC x).toArray 30)) x := ⟨(Below.refl _ _).alloc (Nat.le_refl _) _, heap_alloc_at' _ _ _ rfl⟩

set_option maxRecDepth 100000 in
set_option maxHeartbeats 2000000 in
theorem initialsMatch_any (ad : Option Addr) (l : List PS) (cap : Nat) (x : PS) (w : World) (hq : SeqU w ⟨ad, l, cap⟩) (hx : RdU w x) :
    Calls Try.prog 6 #[.slice ad l.length cap, stv x] w (Gives (.bool true) w) := by
  have HQ := Lib.hid hq
  have HX := Lib.hid hx
  have HM0 := Lib.hid (IM.new w x)
  clear hq hx
  go_enter Try.func6, Try.ntmps6
  go_wp2_with (first | (go_at_call 9; (with_reducible refine (awake_any _).mono ?_); rintro e w1 ⟨rfl, p1, rfl⟩) | (go_at_call 10; refine Stop.here ?_))
  refine Stop.on ?_
  have hrow : Row 1 paC (((gw (w.alloc (.cells (stC x).toArray 30)) p1).alloc (.cells (stC x).toArray 30)).alloc (.cells #[.slice ad l.length cap, .slice (some ⟨w.heap.size + 1 + p1.os.size, 0, none⟩) 1 1] 41)) (some ⟨w.heap.size + 1 + p1.os.size + 1, 0, none⟩) [⟨ad, l, cap⟩, ⟨some ⟨w.heap.size + 1 + p1.os.size, 0, none⟩, [x], 1⟩] :=
    Row.of_block paC_len (heap_alloc_at' _ _ _ (by simp)) (by simp)
  have HM1 := Lib.hid (HM0.out.then (((gw_below (w.alloc (.cells (stC x).toArray 30)) p1).alloc (by simp) (.cells (stC x).toArray 30)).alloc (by simp; omega) (.cells #[.slice ad l.length cap, .slice (some ⟨w.heap.size + 1 + p1.os.size, 0, none⟩) 1 1] 41)))
  have hstp : Row 4 stC ((gw (w.alloc (.cells (stC x).toArray 30)) p1).alloc (.cells (stC x).toArray 30)) (some ⟨w.heap.size + 1 + p1.os.size, 0, none⟩) [x] := Row.of_block stC_len (heap_alloc_at' _ _ _ (by simp)) (by simp)
  have hstp2 := hstp.below ((Below.refl _ _).alloc (Nat.le_refl _) (.cells #[.slice ad l.length cap, .slice (some ⟨w.heap.size + 1 + p1.os.size, 0, none⟩) 1 1] 41))
  refine (few_any _ _ 2 _ hrow (fun q hq => by
    simp at hq
    rcases hq with rfl | rfl
    · exact HQ.out.row.below HM1.out.below
    · exact hstp2)).mono ?_
  rintro e w1 ⟨rfl, p2, rfl⟩
  have HM2 := Lib.hid (HM1.out.then (gw_below _ p2))
  clear hrow hstp hstp2 HM1 HM0
  generalize gw (((gw (w.alloc (.cells (stC x).toArray 30)) p1).alloc (.cells (stC x).toArray 30)).alloc (.cells #[.slice ad l.length cap, .slice (some ⟨w.heap.size + 1 + p1.os.size, 0, none⟩) 1 1] 41)) p2 = W at *
  generalize w.heap.size + 1 + p1.os.size = n1 at *
  obtain ⟨d, hd⟩ : ∃ d, few [⟨ad, l, cap⟩, ⟨some ⟨n1, 0, none⟩, [x], 1⟩] = d := ⟨_, rfl⟩
  rw [hd]
  have HB := Lib.hid HM2.out.below
  cases d
  · go_wp2
    go_ret; exact Gives.mk rfl (by have hb' := HB.out; have hs' := HB.out.size; repeat (first | exact hb' | refine below_gw ?_ (by first | (simp; done) | (simp; omega) | omega) _ | refine Below.alloc ?_ (by first | (simp; done) | (simp; omega) | omega) _ | refine Below.setCell ?_ (by first | (simp; done) | (simp; omega) | omega) | refine Below.drew ?_))
  have hfs := (few_spec hd).2
  have hl8 := (hfs ⟨ad, l, cap⟩ (by simp)).1
  simp only at hl8
  have HST := Lib.hid (show Sts w ad l from ⟨HQ.out.row, fun s hs => ⟨(HQ.out.rd s hs).1, (HQ.out.rd s hs).2, ((hfs ⟨ad, l, cap⟩ (by simp)).2 s hs).1, ((hfs ⟨ad, l, cap⟩ (by simp)).2 s hs).2⟩⟩)
  have HRX := Lib.hid (show Rd w x from ⟨HX.out.1, HX.out.2, ((hfs ⟨some ⟨n1, 0, none⟩, [x], 1⟩ (by simp)).2 x (by simp)).1, ((hfs ⟨some ⟨n1, 0, none⟩, [x], 1⟩ (by simp)).2 x (by simp)).2⟩)
  have hcp := HQ.out.cap
  have hni := HQ.out.nil
  simp only at hcp hni
  have HNI := Lib.hid hni
  clear hd hfs hni HB HX HQ
  have hsz := HM2.out.below.size
  have hbx := row_cells HM2.out.box
  have c0 := (hbx 0).trans (show _ = some (.int .i64 x.g) from rfl)
  have c1 := (hbx 1).trans (show _ = some (.int .i64 x.c) from rfl)
  have c2 := (hbx 2).trans (show _ = some (.slice x.ga x.gs.length x.gc) from rfl)
  have c3 := (hbx 3).trans (show _ = some (.slice x.ta x.ts.length x.tc) from rfl)
  have o0 : Old w.heap.size W := Old.of_cell c0
  clear hbx
  go_wp2_with (go_at_call 19; refine Stop.here ?_)
  refine Stop.on ?_
  refine (withoutP_any ad l cap x W (HST.out.below HM2.out.below) (HRX.out.below HM2.out.below) hcp HNI.out (by omega)).mono ?_
  intro e w2 h
  obtain ⟨a1, k1, rfl, hb, hs1, hl1⟩ := h.view (HST.out.below HM2.out.below) (by omega)
  have HM3 := Lib.hid (HM2.out.then hb)
  have HS1 := Lib.hid hs1
  clear h hb hs1 c0 c1 c2 c3 o0 hsz HM2
  have hsz := HM3.out.below.size
  have hbx := row_cells HM3.out.box
  have c0 := (hbx 0).trans (show _ = some (.int .i64 x.g) from rfl)
  have c1 := (hbx 1).trans (show _ = some (.int .i64 x.c) from rfl)
  have c2 := (hbx 2).trans (show _ = some (.slice x.ga x.gs.length x.gc) from rfl)
  have c3 := (hbx 3).trans (show _ = some (.slice x.ta x.ts.length x.tc) from rfl)
  have o0 : Old w.heap.size w2 := Old.of_cell c0
  clear hbx
  obtain ⟨R, hR⟩ : ∃ R, R = (wo l x).getD [] := ⟨_, rfl⟩
  obtain ⟨D, hD⟩ : ∃ D, D = (wo l x).isSome := ⟨_, rfl⟩
  rw [← hR] at HS1 hl1 ⊢
  rw [← hD]
  have HR := Lib.hid hR
  have HD := Lib.hid hD
  clear hR hD
  go_wp2_with (go_at_call 20; refine Stop.here ?_)
  refine Stop.on ?_
  refine (withoutR_any ad l cap x w2 (HST.out.below HM3.out.below) (HRX.out.below HM3.out.below) hcp HNI.out (by omega)).mono ?_
  intro e w3 h
  obtain ⟨a2, k2, rfl, hb, hs2, hl2⟩ := h.view (HST.out.below HM3.out.below) (by omega)
  have HM4 := Lib.hid (HM3.out.then hb)
  rw [← HR.out] at hs2 hl2 ⊢
  rw [← HD.out]
  have HS2 := Lib.hid hs2
  have HS1' := Lib.hid (HS1.out.below hb)
  clear h hb hs2 c0 c1 c2 c3 o0 hsz HM3 HS1
  have hsz := HM4.out.below.size
  go_wp2_with (go_at_call 22; refine Stop.here ?_)
  refine Stop.on ?_
  refine (initialsP_any ad l cap w3 (HST.out.below HM4.out.below) hcp (by omega)).mono ?_
  intro e w4 h
  obtain ⟨a3, k3, rfl, hb, hr3⟩ := h.view pkC_len
  have HM5 := Lib.hid (HM4.out.then hb)
  have HR3 := Lib.hid hr3
  have HS3 := Lib.hid (HS1'.out.below hb)
  have HS4 := Lib.hid (HS2.out.below hb)
  clear h hb hr3 HM4 HS1' HS2 hsz
  go_wp2_with (go_at_call 23; refine Stop.here ?_)
  refine Stop.on ?_
  refine (initialsR_any ad l cap w4 (HST.out.below HM5.out.below) (by omega)).mono ?_
  intro e w5 h
  obtain ⟨a4, k4, rfl, hb, hr4⟩ := h.view pkC_len
  have HM6 := Lib.hid (HM5.out.then hb)
  have HR4 := Lib.hid hr4
  have HR5 := Lib.hid (HR3.out.below hb)
  have HS5 := Lib.hid (HS3.out.below hb)
  have HS6 := Lib.hid (HS4.out.below hb)
  have hil := iniF_len l l.length
  have HSP := Lib.hid (samePicks_self a3 a4 (iniF l l.length) k3 k4 w5 HR5.out HR4.out (by omega))
  have HSA := Lib.hid (fun q => sameAll_any a1 a2 R R k1 k2 (gw w5 q) (HS5.out.gw q) (HS6.out.gw q) (by omega) (by omega))
  rw [show eqL same R R = true from eqL_refl same_refl R] at HSA
  clear h hb hr4 HM5 HR3 HS3 HS4
  have HB := Lib.hid HM6.out.below
  cases D
  · go_wp2_with (first | (go_at_call 21; (with_reducible refine (HSP.out).mono ?_); rintro e w1 ⟨rfl, p7, rfl⟩) | (go_at_call 16; (with_reducible refine (HSA.out _).mono ?_); rintro e w1 ⟨rfl, p8, rfl⟩))
    go_ret; exact Gives.mk rfl (by have hb' := HB.out; have hs' := HB.out.size; repeat (first | exact hb' | refine below_gw ?_ (by first | (simp; done) | (simp; omega) | omega) _ | refine Below.alloc ?_ (by first | (simp; done) | (simp; omega) | omega) _ | refine Below.setCell ?_ (by first | (simp; done) | (simp; omega) | omega) | refine Below.drew ?_))
  · go_wp2_with (first | (go_at_call 21; (with_reducible refine (HSP.out).mono ?_); rintro e w1 ⟨rfl, p7, rfl⟩) | (go_at_call 16; (with_reducible refine (HSA.out _).mono ?_); rintro e w1 ⟨rfl, p8, rfl⟩))
    go_ret; exact Gives.mk rfl (by have hb' := HB.out; have hs' := HB.out.size; repeat (first | exact hb' | refine below_gw ?_ (by first | (simp; done) | (simp; omega) | omega) _ | refine Below.alloc ?_ (by first | (simp; done) | (simp; omega) | omega) _ | refine Below.setCell ?_ (by first | (simp; done) | (simp; omega) | omega) | refine Below.drew ?_))
end Go.Proofs.Ytmgiojkdcpolfaa
