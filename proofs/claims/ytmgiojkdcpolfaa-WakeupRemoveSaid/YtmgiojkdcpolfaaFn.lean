/- find: the child with a pick. -/
import Derived.Test.YtmgiojkdcpolfaaPi
import Derived.BigQuiet
namespace Go.Proofs.Ytmgiojkdcpolfaa
open Go.RowKit Go.Sort PT

/-- A pick, as a step that has it. -/
abbrev pkS (g c : Int) : PS := ⟨g, c, none, [], 0, none, [], 0⟩
set_option maxHeartbeats 1000000 in
theorem cl69_any (k : PT) (xg xc : Int) (bx : Nat) (w : World) (h0 : w.cell? ⟨bx, 0, none⟩ = some (.int .i64 xg)) (h1 : w.cell? ⟨bx, 1, none⟩ = some (.int .i64 xc)) :
    Calls Try.prog 69 #[trV k, .pointer (some ⟨bx, 0, none⟩)] w (Gives (.bool (pk k.s (pkS xg xc))) w) := by
  have o0 : Old bx w := Old.of_cell h0
  obtain ⟨⟨sg, sc, sga, sgs, sgc, sta, sts, stc⟩, ad, cap, ks⟩ := k
  go_enter Try.func69, Try.ntmps69
  go_wp2
  all_goals
    (try simp only [PT.s] at *)
    go_ret
    exact Gives.mk (by simp [pk, *]) (by repeat (first | exact Below.refl _ _ | refine below_gw ?_ (by simp; try omega) _ | refine Below.alloc ?_ (by simp; try omega) _ | refine Below.setCell ?_ (by simp; try omega) _ | refine Below.drew ?_))

set_option maxHeartbeats 1000000 in
theorem idxT_any (ad : Option Addr) (l : List PT) (cap : Nat) (bx : Nat) (f : PS → Bool) (w : World) (hrow : Row 5 trC w ad l) (hb : l.length ≤ 1000)
    (hcl : ∀ p ∈ l, ∀ r, Calls Try.prog 69 #[trV p, .pointer (some ⟨bx, 0, none⟩)] (gw w r) (Gives (.bool (f p.s)) (gw w r))) :
    Calls Try.prog 68 #[.slice ad l.length cap, .func (.func 69) #[] #[.pointer (some ⟨bx, 0, none⟩)]] w (Gives (.int .i64 (idxI (l.map PT.s) f)) w) := by
  have HS := Lib.hid hrow
  have HC := Lib.hid hcl
  clear hrow hcl
  go_enter Try.func68, Try.ntmps68
  go_wp2
  go_loopw [8] (fun i wr => ∃ k : Nat, ∃ r, k ≤ l.length ∧ i = .int .i64 k ∧ Hid (((l.map PT.s).take k).any f = false) ∧ wr = gw w r) (fun i _ => l.length - (intOf i).toNat)
  case atStart => exact ⟨0, _, by omega, rfl, Lib.hid rfl, gw_self _⟩
  case round =>
    obtain ⟨k, r, hk, rfl, hf, rfl⟩ := hrel
    by_cases hlt : k < l.length
    · have kb : (k : Int) < l.length := by omega
      obtain ⟨x, hx⟩ := get_some hlt
      have HP := Lib.hid (HC.out x (List.mem_of_getElem? hx) r)
      obtain ⟨b, off, rfl, ho, hc⟩ := HS.out.get hx
      have f0 := hc 0 (by omega)
      have f1 := hc 1 (by omega)
      have f2 := hc 2 (by omega)
      have f3 := hc 3 (by omega)
      have f4 := hc 4 (by omega)
      simp at f0 f1 f2 f3 f4
      have HX := Lib.hid (show (l.map PT.s)[k]? = some x.s by rw [List.getElem?_map, hx]; rfl)
      clear hx hc
      obtain ⟨d, hd⟩ : ∃ d, f x.s = d := ⟨_, rfl⟩
      rw [hd] at HP
      have HD := Lib.hid hd
      clear hd
      cases d
      · go_wp2_with (go_at_call 69; (with_reducible refine (HP.out).mono ?_); rintro e w1 ⟨rfl, p1, rfl⟩)
        go_roundw
        case rel =>
          obtain ⟨r', hr'⟩ := back_gw w r p1
          exact ⟨k + 1, r', by omega, by go_num, Lib.hid (by rw [any_take _ HX.out, hf.out, HD.out]; rfl), hr'⟩
        case measure => simp [intOf]; omega
      · go_wp2_with (go_at_call 69; (with_reducible refine (HP.out).mono ?_); rintro e w1 ⟨rfl, p1, rfl⟩)
        have he := Lib.hid (idx_hit hf.out HX.out HD.out).symm
        have HB := Lib.hid (below_gw (gw_below w r) (by simp) p1)
        go_ret; exact Gives.mk (by rw [he.out]; rfl) (by have hb' := HB.out; have hs' := HB.out.size; repeat (first | exact hb' | refine below_gw ?_ (by first | (simp; done) | (simp; omega) | omega) _ | refine Below.alloc ?_ (by first | (simp; done) | (simp; omega) | omega) _ | refine Below.setCell ?_ (by first | (simp; done) | (simp; omega) | omega) | refine Below.drew ?_))
    · have he := Lib.hid (idx_none (any_full (l := l.map PT.s) (by simpa using hlt) hf.out)).symm
      have HB := Lib.hid (gw_below w r)
      go_wp2
      go_ret; exact Gives.mk (by rw [he.out]; rfl) (by have hb' := HB.out; have hs' := HB.out.size; repeat (first | exact hb' | refine below_gw ?_ (by first | (simp; done) | (simp; omega) | omega) _ | refine Below.alloc ?_ (by first | (simp; done) | (simp; omega) | omega) _ | refine Below.setCell ?_ (by first | (simp; done) | (simp; omega) | omega) | refine Below.drew ?_))

theorem find_any (W0 : World) (t : PT) (xg xc : Int) (w : World) (hL : Lies W0 w t) (hk : t.ks.length ≤ 900) :
    Calls Try.prog 49 #[trV t, pkv xg xc] w (Gives (.int .i64 (idxI (t.ks.map PT.s) (fun s => pk s (pkS xg xc)))) w) := by
  obtain ⟨s, ad, cap, ks⟩ := t
  simp only [trV, PT.s, PT.ad, PT.cap, PT.ks] at hk ⊢
  obtain ⟨X, hX⟩ : ∃ X, X = (w.alloc (.cells (trC (.mk s ad cap ks)).toArray 33)).alloc (.cells #[.int .i64 xg, .int .i64 xc] 26) := ⟨_, rfl⟩
  have HB := Lib.hid (show Below w.heap.size w X by rw [hX]; exact (by repeat (first | exact Below.refl _ _ | refine below_gw ?_ (by simp; try omega) _ | refine Below.alloc ?_ (by simp; try omega) _ | refine Below.setCell ?_ (by simp; try omega) _ | refine Below.drew ?_)))
  have hbx : X.heap[w.heap.size + 1]? = some (.cells #[.int .i64 xg, .int .i64 xc] 26 (0, 0)) := by rw [hX]; exact heap_alloc_at' _ _ _ (by simp)
  have hbt : X.heap[w.heap.size]? = some (.cells (trC (.mk s ad cap ks)).toArray 33 (0, 0)) := by rw [hX]; exact (Below.heap_alloc _ _ _ (by simp)).trans (heap_alloc_at' _ _ _ rfl)
  have c4 := (row_cells hbt 4).trans (show _ = some (.slice ad ks.length cap) from rfl)
  have x0 := row_cells hbx 0
  have x1 := row_cells hbx 1
  simp at x0 x1
  have o0 : Old w.heap.size X := Old.of_cell c4
  have o1 : Old (w.heap.size + 1) X := Old.of_cell x0
  have HC := Lib.hid (idxT_any ad ks cap (w.heap.size + 1) (fun s => pk s (pkS xg xc)) X (hL.self.row.below HB.out) (by omega) (fun p _ r => cl69_any p xg xc _ _ ((gw_cell _ _ _ _ o1).trans x0) ((gw_cell _ _ _ _ o1).trans x1)))
  clear hL hbx hbt x0 x1
  go_enter Try.func49, Try.ntmps49
  go_wp2_with (go_at_call 68; refine Stop.here ?_)
  refine Stop.on ?_
  have hc := HC.out
  rw [hX] at hc HB
  refine hc.mono ?_
  rintro e w1 ⟨rfl, p1, rfl⟩
  have HB2 := Lib.hid (below_gw HB.out HB.out.size p1)
  clear hc HC hX
  go_wp2
  go_ret; exact Gives.mk rfl (by have hb' := HB2.out; have hs' := HB2.out.size; repeat (first | exact hb' | refine below_gw ?_ (by first | (simp; done) | (simp; omega) | omega) _ | refine Below.alloc ?_ (by first | (simp; done) | (simp; omega) | omega) _ | refine Below.setCell ?_ (by first | (simp; done) | (simp; omega) | omega) | refine Below.drew ?_))
end Go.Proofs.Ytmgiojkdcpolfaa
