/- The document's examples. -/
import Derived.Test.YtioajmhfofmdoaaHl
namespace Go.Proofs.Ytioajmhfofmdoaa
open Go.RowKit Go.Sort Go.Maps

def w12 : Wd := ⟨1, 2, false, 0, 0, fun _ => 0⟩
def la1 : List Ent := setM [] 5 3 w12
def la2 : List Ent := setM la1 5 16 w12
def la3 : List Ent := setM la2 5 16 wz
theorem la_good : Good la1 ∧ Good la2 ∧ Good la3 := ⟨good_set good_nil _ _ _, good_set (good_set good_nil _ _ _) _ _ _, good_set (good_set (good_set good_nil _ _ _) _ _ _) _ _ _⟩
theorem la_fits : Fits la1 ∧ Fits la2 ∧ Fits la3 := ⟨fits_set fits_nil _ (by omega) (by omega), fits_set (fits_set fits_nil _ (by omega) (by omega)) _ (by omega) (by omega), fits_set (fits_set (fits_set fits_nil _ (by omega) (by omega)) _ (by omega) (by omega)) _ (by omega) (by omega)⟩
theorem la_two : pagesK la2 la2.length = 2 := by kernel_rfl
theorem la_one : pagesK la3 la3.length = 1 := by kernel_rfl
theorem la_get : getM la3 5 3 = w12 := by kernel_rfl

set_option maxRecDepth 100000 in
set_option maxHeartbeats 1000000 in
theorem awake_any (w : World) : Calls Try.prog 9 #[] w (Gives (.bool true) w) := by
  go_enter Try.func9, Try.ntmps9
  go_wp2_with (go_at_call 10; refine (newH_any _).mono ?_; rintro e w1 ⟨bm, bp, tk, rfl, hb, hm⟩; have HB := Lib.hid hb; have HM := Lib.hid hm; clear hb hm)
  have h1 := HM.out.below (show Below w1.heap.size w1 (w1.alloc (.cells (wc w12) 37)) from (by repeat (first | exact Below.refl _ _ | refine below_gw ?_ (by simp; try omega) _ | refine Below.alloc ?_ (by simp; try omega) _ | refine Below.setCell ?_ (by simp; try omega) _ | refine Below.drew ?_)))
  have b1 := HB.out.trans ((show Below w1.heap.size w1 (w1.alloc (.cells (wc w12) 37)) from (by repeat (first | exact Below.refl _ _ | refine below_gw ?_ (by simp; try omega) _ | refine Below.alloc ?_ (by simp; try omega) _ | refine Below.setCell ?_ (by simp; try omega) _ | refine Below.drew ?_))).mono HB.out.size)
  have r1 : (w1.alloc (.cells (wc w12) 37)).heap[w1.heap.size]? = some (.cells (wc w12) 37 (0, 0)) := heap_alloc_at' _ _ _ rfl
  have m1 := h1.isMap
  refine (setH_any h1 5 3 w12 (by omega) (by omega) (by omega)).mono ?_
  rintro e w2 ⟨rfl, n2, hn2, h2, fr2, hb2⟩
  obtain ⟨es, ck, m1⟩ := m1
  have r2 := fr2.row m1 r1 (by decide)
  have HB2 := Lib.hid (b1.trans hb2)
  have H2 := Lib.hid h2
  have R2 := Lib.hid r2
  have N2 := Lib.hid hn2
  clear h1 b1 r1 fr2 hb2 h2 m1 r2 hn2 HB HM
  have f0 := row_cells R2.out 0
  have f1 := row_cells R2.out 1
  have f2 := row_cells R2.out 2
  have f3 := row_cells R2.out 3
  have f4 := row_cells R2.out 4
  have f5 := row_cells R2.out 5
  have f6 := row_cells R2.out 6
  have f7 := row_cells R2.out 7
  have f8 := row_cells R2.out 8
  have f9 := row_cells R2.out 9
  have f10 := row_cells R2.out 10
  have f11 := row_cells R2.out 11
  have f12 := row_cells R2.out 12
  simp [w12] at f0 f1 f2 f3 f4 f5 f6 f7 f8 f9 f10 f11 f12
  have o0 : Old w1.heap.size _ := (Array.getElem?_eq_some_iff.1 R2.out).1
  go_wp2_with (go_at_call 23; refine Stop.here ?_)
  refine Stop.on ?_
  obtain ⟨es, ck, m2⟩ := H2.out.isMap
  refine (setH_any H2.out 5 16 w12 (by omega) (by omega) (by have := N2.out; omega)).mono ?_
  rintro e w3 ⟨rfl, n3, hn3, h3, fr3, hb3⟩
  have r3 := fr3.row m2 R2.out (by decide)
  have HB3 := Lib.hid (HB2.out.trans hb3)
  have H3 := Lib.hid h3
  have R3 := Lib.hid r3
  have N3 := Lib.hid (show n3 ≤ 5 by have := N2.out; omega)
  clear fr3 hb3 h3 m2 r3 hn3 HB2 H2 N2
  clear f0 f1 f2 f3 f4 f5 f6 f7 f8 f9 f10 f11 f12 o0
  have f0 := row_cells R3.out 0
  have f1 := row_cells R3.out 1
  have f2 := row_cells R3.out 2
  have f3 := row_cells R3.out 3
  have f4 := row_cells R3.out 4
  have f5 := row_cells R3.out 5
  have f6 := row_cells R3.out 6
  have f7 := row_cells R3.out 7
  have f8 := row_cells R3.out 8
  have f9 := row_cells R3.out 9
  have f10 := row_cells R3.out 10
  have f11 := row_cells R3.out 11
  have f12 := row_cells R3.out 12
  simp [w12] at f0 f1 f2 f3 f4 f5 f6 f7 f8 f9 f10 f11 f12
  have o0 : Old w1.heap.size _ := (Array.getElem?_eq_some_iff.1 R3.out).1
  have HP := Lib.hid (by have := pagesH_any H3.out la_good.2.1 la_fits.2.1; rw [show setM (setM [] 5 3 w12) 5 16 w12 = la2 from rfl] at this; rwa [la_two] at this : Calls Try.prog 16 #[.pointer (some ⟨bm, 0, none⟩)] w3 (Gives (.int .i64 ((2 : Nat) : Int)) w3))
  go_wp2_with (first | (go_at_call 16; refine (HP.out).mono ?_; rintro e w1 ⟨rfl, p1, rfl⟩) | (go_at_call 23; refine Stop.here ?_))
  refine Stop.on ?_
  obtain ⟨es, ck, m3⟩ := (H3.out.gw p1).isMap
  have r3 : (gw w3 p1).heap[w1.heap.size]? = _ := (gw_heap _ _ _ (Array.getElem?_eq_some_iff.1 R3.out).1).trans R3.out
  have HB3b := Lib.hid (HB3.out.trans ((gw_below w3 p1).mono HB3.out.size))
  refine (setH_any (H3.out.gw p1) 5 16 wz (by omega) (by omega) (by have := N3.out; omega)).mono ?_
  rintro e w4 ⟨rfl, n4, hn4, h4, fr4, hb4⟩
  have r4 := fr4.row m3 r3 (by decide)
  have HB4 := Lib.hid (HB3b.out.trans hb4)
  have H4 := Lib.hid h4
  have R4 := Lib.hid r4
  have N4 := Lib.hid (show n4 ≤ 6 by have := N3.out; omega)
  clear fr4 hb4 h4 m3 r3 r4 hn4 HB3 HB3b H3 N3 HP R3
  clear f0 f1 f2 f3 f4 f5 f6 f7 f8 f9 f10 f11 f12 o0
  have f0 := row_cells R4.out 0
  have f1 := row_cells R4.out 1
  have f2 := row_cells R4.out 2
  have f3 := row_cells R4.out 3
  have f4 := row_cells R4.out 4
  have f5 := row_cells R4.out 5
  have f6 := row_cells R4.out 6
  have f7 := row_cells R4.out 7
  have f8 := row_cells R4.out 8
  have f9 := row_cells R4.out 9
  have f10 := row_cells R4.out 10
  have f11 := row_cells R4.out 11
  have f12 := row_cells R4.out 12
  simp [w12] at f0 f1 f2 f3 f4 f5 f6 f7 f8 f9 f10 f11 f12
  have o0 : Old w1.heap.size _ := (Array.getElem?_eq_some_iff.1 R4.out).1
  go_wp2_with (go_at_call 23; refine Stop.here ?_)
  refine Stop.on ?_
  obtain ⟨es, ck, m4⟩ := H4.out.isMap
  refine (setH_any H4.out (-1) 0 w12 (by omega) (by omega) (by have := N4.out; omega)).mono ?_
  rintro e w5 ⟨rfl, n5, hn5, h5, fr5, hb5⟩
  have r5 := fr5.row m4 R4.out (by decide)
  have HB5 := Lib.hid (HB4.out.trans hb5)
  have H5 := Lib.hid (show Holds (· = tk) w.heap.size w5 bm bp tk n5 la3 from h5)
  have R5 := Lib.hid r5
  clear fr5 hb5 h5 m4 r5 hn5 HB4 H4 N4 R4
  clear f0 f1 f2 f3 f4 f5 f6 f7 f8 f9 f10 f11 f12 o0
  have f0 := row_cells R5.out 0
  have f1 := row_cells R5.out 1
  have f2 := row_cells R5.out 2
  have f3 := row_cells R5.out 3
  have f4 := row_cells R5.out 4
  have f5 := row_cells R5.out 5
  have f6 := row_cells R5.out 6
  have f7 := row_cells R5.out 7
  have f8 := row_cells R5.out 8
  have f9 := row_cells R5.out 9
  have f10 := row_cells R5.out 10
  have f11 := row_cells R5.out 11
  have f12 := row_cells R5.out 12
  simp [w12] at f0 f1 f2 f3 f4 f5 f6 f7 f8 f9 f10 f11 f12
  have o0 : Old w1.heap.size _ := (Array.getElem?_eq_some_iff.1 R5.out).1
  have HP := Lib.hid (fun q => (by have := pagesH_any (H5.out.gw q) la_good.2.2 la_fits.2.2; rwa [la_one] at this : Calls Try.prog 16 #[.pointer (some ⟨bm, 0, none⟩)] (gw w5 q) (Gives (.int .i64 ((1 : Nat) : Int)) (gw w5 q))))
  have HG1 := Lib.hid (fun q => (by have := getH_any (H5.out.gw q) la_good.2.2 5 3 (by omega) (by omega); rwa [la_get] at this : Calls Try.prog 13 #[.pointer (some ⟨bm, 0, none⟩), locv 5 3] (gw w5 q) (Gives (.agg #[.int .i64 1, .int .i64 2, .bool false, .int .i64 0, .int .i64 0, .int .i64 0, .int .i64 0, .int .i64 0, .int .i64 0, .int .i64 0, .int .i64 0, .int .i64 0, .int .i64 0]) (gw w5 q))))
  have HG2 := Lib.hid (fun q => (by have := getH_any (H5.out.gw q) la_good.2.2 (-1) 0 (by omega) (by omega); rwa [get_out la_good.2.2 (by rfl)] at this : Calls Try.prog 13 #[.pointer (some ⟨bm, 0, none⟩), locv (-1) 0] (gw w5 q) (Gives (.agg #[.int .i64 0, .int .i64 0, .bool false, .int .i64 0, .int .i64 0, .int .i64 0, .int .i64 0, .int .i64 0, .int .i64 0, .int .i64 0, .int .i64 0, .int .i64 0, .int .i64 0]) (gw w5 q))))
  have q1 : ∀ w, (binOp .eql 37 (.agg #[.int .i64 1, .int .i64 2, .bool false, .int .i64 0, .int .i64 0, .int .i64 0, .int .i64 0, .int .i64 0, .int .i64 0, .int .i64 0, .int .i64 0, .int .i64 0, .int .i64 0]) (.agg #[.int .i64 1, .int .i64 2, .bool false, .int .i64 0, .int .i64 0, .int .i64 0, .int .i64 0, .int .i64 0, .int .i64 0, .int .i64 0, .int .i64 0, .int .i64 0, .int .i64 0])).run Try.prog w = .ok (.bool true) w := fun w => by
    have := run_eql_wd w12 w12 w
    rwa [(wdE_iff w12 w12).2 rfl] at this
  have q2 : ∀ w, (binOp .eql 37 (.agg #[.int .i64 0, .int .i64 0, .bool false, .int .i64 0, .int .i64 0, .int .i64 0, .int .i64 0, .int .i64 0, .int .i64 0, .int .i64 0, .int .i64 0, .int .i64 0, .int .i64 0]) (.agg #[.int .i64 0, .int .i64 0, .bool false, .int .i64 0, .int .i64 0, .int .i64 0, .int .i64 0, .int .i64 0, .int .i64 0, .int .i64 0, .int .i64 0, .int .i64 0, .int .i64 0])).run Try.prog w = .ok (.bool true) w := fun w => by
    have := run_eql_wd wz wz w
    rwa [(wdE_iff wz wz).2 rfl] at this
  go_wp2
  refine wp_region_gw (by kernel_rfl) (by kernel_rfl) ?_
  repeat (quiet_step (first | (go_at_call 16; exact Gives.call (HP.out _)) | (go_at_call 13; first | with_reducible exact Gives.call (HG1.out _) | with_reducible exact Gives.call (HG2.out _))))
  refine wpQuiet_nil ?_
  intro _ hw'
  obtain ⟨p5, hw''⟩ := hw'
  subst hw''
  go_wp2
  go_ret
  exact Gives.mk rfl (HB5.out.trans ((gw_below w5 p5).mono HB5.out.size))

end Go.Proofs.Ytioajmhfofmdoaa
