/- SameAll, SamePaths. -/
import Derived.Test.YtmgiojkdcpolfaaSm
import Derived.Test.YtmgiojkdcpolfaaPh
namespace Go.Proofs.Ytmgiojkdcpolfaa
open Go.RowKit Go.Sort

set_option maxRecDepth 100000 in
set_option maxHeartbeats 1000000 in
theorem sameAll_any (a1 a2 : Option Addr) (l1 l2 : List PS) (c1 c2 : Nat) (w : World) (h1 : Sts w a1 l1) (h2 : Sts w a2 l2) (hb1 : l1.length ≤ 1000) (_ : l2.length ≤ 1000) :
    Calls Try.prog 16 #[.slice a1 l1.length c1, .slice a2 l2.length c2] w (Gives (.bool (eqL same l1 l2)) w) := by
  have H1 := Lib.hid h1
  have H2 := Lib.hid h2
  clear h1 h2
  by_cases hl : l1.length = l2.length
  · have hz : ((l1.length : Int) != (l2.length : Int)) = false := by simp [hl]
    have HLL := Lib.hid hl
    clear hl
    go_enter Try.func16, Try.ntmps16
    go_wp2
    go_loopw [5] (fun i wr => ∃ k : Nat, ∃ r, k ≤ l1.length ∧ i = .int .i64 k ∧ Hid (((l1.zip l2).take k).all (fun p => same p.1 p.2) = true) ∧ wr = gw w r) (fun i _ => l1.length - (intOf i).toNat)
    case atStart => exact ⟨0, _, by omega, rfl, Lib.hid (by simp), gw_self _⟩
    case round =>
      obtain ⟨k, r, hk, rfl, hf, rfl⟩ := hrel
      by_cases hlt : k < l1.length
      · have kb : (k : Int) < l1.length := by omega
        have kb2 : (k : Int) < l2.length := by have := HLL.out; omega
        obtain ⟨x, hx⟩ := get_some hlt
        obtain ⟨y, hy⟩ := get_some (show k < l2.length by omega)
        obtain ⟨b, off, rfl, ho, hc⟩ := H1.out.row.get hx
        obtain ⟨b', off', rfl, ho', hc'⟩ := H2.out.row.get hy
        have f0 := hc 0 (by omega)
        have f1 := hc 1 (by omega)
        have f2 := hc 2 (by omega)
        have f3 := hc 3 (by omega)
        have g0 := hc' 0 (by omega)
        have g1 := hc' 1 (by omega)
        have g2 := hc' 2 (by omega)
        have g3 := hc' 3 (by omega)
        simp at f0 f1 f2 f3 g0 g1 g2 g3
        have HX := Lib.hid hx
        have HY := Lib.hid hy
        have hd := fun r => same_any x y (gw w r) ((H1.out.at hx).gw r) ((H2.out.at hy).gw r)
        clear hx hy hc hc'
        obtain ⟨d, he⟩ : ∃ d, same x y = d := ⟨_, rfl⟩
        rw [he] at hd
        have HD := Lib.hid hd
        have HE := Lib.hid he
        clear hd he
        cases d
        · have he := Lib.hid (eqL_no (f := same) HX.out HY.out HE.out)
          go_wp2
          refine wp_region_gw (by kernel_rfl) (by kernel_rfl) ?_
          repeat (quiet_step (first | (go_at_call 26; exact DGives HD.out _ _)))
          refine wpQuiet_nil ?_
          intro _ hw'
          obtain ⟨p1, hw''⟩ := hw'
          subst hw''
          go_wp2
          have HB := Lib.hid (gw_below w r)
          go_ret; exact Gives.mk (by rw [he.out]; rfl) (by have hb' := HB.out; have hs' := HB.out.size; repeat (first | exact hb' | refine below_gw ?_ (by first | (simp; done) | (simp; omega) | omega) _ | refine Below.alloc ?_ (by first | (simp; done) | (simp; omega) | omega) _ | refine Below.setCell ?_ (by first | (simp; done) | (simp; omega) | omega) | refine Below.drew ?_))
        · have he := Lib.hid (eqL_step hf.out HX.out HY.out HE.out)
          go_wp2
          refine wp_region_gw (by kernel_rfl) (by kernel_rfl) ?_
          repeat (quiet_step (first | (go_at_call 26; exact DGives HD.out _ _)))
          refine wpQuiet_nil ?_
          intro _ hw'
          obtain ⟨p1, hw''⟩ := hw'
          subst hw''
          go_wp2
          go_roundw
          case rel =>
            obtain ⟨r', hr'⟩ := back_gw w r p1
            exact ⟨k + 1, r', by omega, by go_num, he, hr'⟩
          case measure => simp [intOf]; omega
      · have he := Lib.hid (eqL_full HLL.out hf.out hlt)
        go_wp2
        have HB := Lib.hid (gw_below w r)
        go_ret; exact Gives.mk (by rw [he.out]; rfl) (by have hb' := HB.out; have hs' := HB.out.size; repeat (first | exact hb' | refine below_gw ?_ (by first | (simp; done) | (simp; omega) | omega) _ | refine Below.alloc ?_ (by first | (simp; done) | (simp; omega) | omega) _ | refine Below.setCell ?_ (by first | (simp; done) | (simp; omega) | omega) | refine Below.drew ?_))
  · have hz : ((l1.length : Int) == (l2.length : Int)) = false := by simp; omega
    have he := Lib.hid (eqL_miss (f := same) hl)
    go_enter Try.func16, Try.ntmps16
    go_wp2
    have HB := Lib.hid (Below.refl w.heap.size w)
    go_ret; exact Gives.mk (by rw [he.out]; rfl) (by have hb' := HB.out; have hs' := HB.out.size; repeat (first | exact hb' | refine below_gw ?_ (by first | (simp; done) | (simp; omega) | omega) _ | refine Below.alloc ?_ (by first | (simp; done) | (simp; omega) | omega) _ | refine Below.setCell ?_ (by first | (simp; done) | (simp; omega) | omega) | refine Below.drew ?_))

def sameP (a b : PA) : Bool := eqL same a.l b.l
/-- A list of paths. -/
structure Pths (w : World) (ad : Option Addr) (ps : List PA) : Prop where
  row : Row 1 paC w ad ps
  at' : ∀ q ∈ ps, Sts w q.ad q.l ∧ q.l.length ≤ 1000
theorem Pths.gw {w : World} {ad : Option Addr} {ps : List PA} (h : Pths w ad ps) (r : Regrown) : Pths (gw w r) ad ps := ⟨h.row.gw r, fun q hq => ⟨(h.at' q hq).1.gw r, (h.at' q hq).2⟩⟩
theorem Pths.below {w w' : World} {ad : Option Addr} {ps : List PA} (h : Pths w ad ps) (hb : Below w.heap.size w w') : Pths w' ad ps := by
  obtain ⟨p, rfl⟩ := gw_of_below hb
  exact h.gw p

set_option maxRecDepth 100000 in
set_option maxHeartbeats 1000000 in
theorem samePaths_any (a1 a2 : Option Addr) (l1 l2 : List PA) (c1 c2 : Nat) (w : World) (h1 : Pths w a1 l1) (h2 : Pths w a2 l2) (hb1 : l1.length ≤ 200000) (_ : l2.length ≤ 200000) :
    Calls Try.prog 12 #[.slice a1 l1.length c1, .slice a2 l2.length c2] w (Gives (.bool (eqL sameP l1 l2)) w) := by
  have H1 := Lib.hid h1
  have H2 := Lib.hid h2
  clear h1 h2
  by_cases hl : l1.length = l2.length
  · have hz : ((l1.length : Int) != (l2.length : Int)) = false := by simp [hl]
    have HLL := Lib.hid hl
    clear hl
    go_enter Try.func12, Try.ntmps12
    go_wp2
    go_loopw [5] (fun i wr => ∃ k : Nat, ∃ r, k ≤ l1.length ∧ i = .int .i64 k ∧ Hid (((l1.zip l2).take k).all (fun p => sameP p.1 p.2) = true) ∧ wr = gw w r) (fun i _ => l1.length - (intOf i).toNat)
    case atStart => exact ⟨0, _, by omega, rfl, Lib.hid (by simp), gw_self _⟩
    case round =>
      obtain ⟨k, r, hk, rfl, hf, rfl⟩ := hrel
      by_cases hlt : k < l1.length
      · have kb : (k : Int) < l1.length := by omega
        have kb2 : (k : Int) < l2.length := by have := HLL.out; omega
        obtain ⟨x, hx⟩ := get_some hlt
        obtain ⟨y, hy⟩ := get_some (show k < l2.length by omega)
        obtain ⟨b, off, rfl, ho, hc⟩ := H1.out.row.get hx
        obtain ⟨b', off', rfl, ho', hc'⟩ := H2.out.row.get hy
        have f0 := hc 0 (by omega)
        have g0 := hc' 0 (by omega)
        simp at f0 g0
        have HX := Lib.hid hx
        have HY := Lib.hid hy
        have q1 := H1.out.at' x (List.mem_of_getElem? hx)
        have q2 := H2.out.at' y (List.mem_of_getElem? hy)
        have hd := fun r => sameAll_any x.ad y.ad x.l y.l x.cap y.cap (gw w r) (q1.1.gw r) (q2.1.gw r) q1.2 q2.2
        clear hx hy hc hc' q1 q2
        obtain ⟨d, he⟩ : ∃ d, eqL same x.l y.l = d := ⟨_, rfl⟩
        rw [he] at hd
        have HD := Lib.hid hd
        have HE := Lib.hid he
        clear hd he
        cases d
        · have he := Lib.hid (eqL_no (f := sameP) HX.out HY.out HE.out)
          go_wp2
          refine wp_region_gw (by kernel_rfl) (by kernel_rfl) ?_
          repeat (quiet_step (first | (go_at_call 16; exact DGives HD.out _ _)))
          refine wpQuiet_nil ?_
          intro _ hw'
          obtain ⟨p1, hw''⟩ := hw'
          subst hw''
          go_wp2
          have HB := Lib.hid (gw_below w r)
          go_ret; exact Gives.mk (by rw [he.out]; rfl) (by have hb' := HB.out; have hs' := HB.out.size; repeat (first | exact hb' | refine below_gw ?_ (by first | (simp; done) | (simp; omega) | omega) _ | refine Below.alloc ?_ (by first | (simp; done) | (simp; omega) | omega) _ | refine Below.setCell ?_ (by first | (simp; done) | (simp; omega) | omega) | refine Below.drew ?_))
        · have he := Lib.hid (eqL_step (f := sameP) hf.out HX.out HY.out HE.out)
          go_wp2
          refine wp_region_gw (by kernel_rfl) (by kernel_rfl) ?_
          repeat (quiet_step (first | (go_at_call 16; exact DGives HD.out _ _)))
          refine wpQuiet_nil ?_
          intro _ hw'
          obtain ⟨p1, hw''⟩ := hw'
          subst hw''
          go_wp2
          go_roundw
          case rel =>
            obtain ⟨r', hr'⟩ := back_gw w r p1
            exact ⟨k + 1, r', by omega, by go_num, he, hr'⟩
          case measure => simp [intOf]; omega
      · have he := Lib.hid (eqL_full (f := sameP) HLL.out hf.out hlt)
        go_wp2
        have HB := Lib.hid (gw_below w r)
        go_ret; exact Gives.mk (by rw [he.out]; rfl) (by have hb' := HB.out; have hs' := HB.out.size; repeat (first | exact hb' | refine below_gw ?_ (by first | (simp; done) | (simp; omega) | omega) _ | refine Below.alloc ?_ (by first | (simp; done) | (simp; omega) | omega) _ | refine Below.setCell ?_ (by first | (simp; done) | (simp; omega) | omega) | refine Below.drew ?_))
  · have hz : ((l1.length : Int) == (l2.length : Int)) = false := by simp; omega
    have he := Lib.hid (eqL_miss (f := sameP) hl)
    go_enter Try.func12, Try.ntmps12
    go_wp2
    have HB := Lib.hid (Below.refl w.heap.size w)
    go_ret; exact Gives.mk (by rw [he.out]; rfl) (by have hb' := HB.out; have hs' := HB.out.size; repeat (first | exact hb' | refine below_gw ?_ (by first | (simp; done) | (simp; omega) | omega) _ | refine Below.alloc ?_ (by first | (simp; done) | (simp; omega) | omega) _ | refine Below.setCell ?_ (by first | (simp; done) | (simp; omega) | omega) | refine Below.drew ?_))

end Go.Proofs.Ytmgiojkdcpolfaa
