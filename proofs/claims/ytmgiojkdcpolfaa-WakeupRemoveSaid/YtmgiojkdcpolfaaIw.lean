/- Insert. -/
import Derived.Test.YtmgiojkdcpolfaaIs
namespace Go.Proofs.Ytmgiojkdcpolfaa
open Go.RowKit Go.Sort PT

/-- The five cells of a tree are written into a box. -/
theorem ins_box {W0 w wr : World} {T : T} {t' : PT} {b : Nat} (hb : Below w.heap.size w wr) (hlow : w.heap.size ≤ b) (hsh : sh t' = T) (hl : Lies W0 wr t') (hf : Fresh w.heap.size t') (ha : Avoid (some b) t') {wF : World} (hg : wr.grownBy wF (some b)) : InsPost W0 T w (.returned (trV t')) wF := by
  obtain ⟨p, hp⟩ := gw_of_below (below_grown hb hg hb.size (fun k e => by cases e; exact hlow))
  exact ⟨t', p, rfl, hp, hsh, hl.grown hg ha, hf⟩
theorem grown_five (wr : World) (b : Nat) (v0 v1 v2 v3 v4 : Value) : wr.grownBy (((((wr.setCell ⟨b, 0, none⟩ v0).setCell ⟨b, 1, none⟩ v1).setCell ⟨b, 2, none⟩ v2).setCell ⟨b, 3, none⟩ v3).setCell ⟨b, 4, none⟩ v4) (some b) :=
  World.grownBy.trans (World.grownBy.trans (World.grownBy.trans (World.grownBy.trans (grown_set wr ⟨b, 0, none⟩ v0) (grown_set _ ⟨b, 1, none⟩ v1)) (grown_set _ ⟨b, 2, none⟩ v2)) (grown_set _ ⟨b, 3, none⟩ v3)) (grown_set _ ⟨b, 4, none⟩ v4)

set_option maxRecDepth 100000 in
theorem insertP_any (W0 : World) (t : PT) (w : World) (l : List PS) (ad : Option Addr) (cap : Nat) (hm : (nodes t).length ≤ 900) (hL : Lies W0 w t) (hW : Below W0.heap.size W0 w) (hrow : Row 4 stC w ad l) (hrd : ∀ p ∈ l, Rd W0 p) (hcap : l.length ≤ cap) (hn : ad = none → cap = 0) (hb : l.length ≤ 900) :
    Calls Try.prog 15 #[trV t, .slice ad l.length cap] w (InsPost W0 (insT (sh t) l true) w) := by
  obtain ⟨X, hX⟩ : ∃ X, X = (w.alloc (.cells (trC t).toArray 33)).alloc (.cells #[.int .i64 0, .int .i64 0, .slice none 0 0, .slice none 0 0, .slice none 0 0] 33) := ⟨_, rfl⟩
  have hbX : Below w.heap.size w X := by rw [hX]; exact (by repeat (first | exact Below.refl _ _ | refine below_gw ?_ (by simp; try omega) _ | refine Below.alloc ?_ (by simp; try omega) _ | refine Below.setCell ?_ (by simp; try omega) _ | refine Below.drew ?_))
  have hXs : X.heap.size = w.heap.size + 1 + 1 := by rw [hX]; simp
  have hres : X.heap[w.heap.size + 1]? = some (.cells #[.int .i64 0, .int .i64 0, .slice none 0 0, .slice none 0 0, .slice none 0 0] 33 (0, 0)) := by rw [hX]; exact heap_alloc_at' _ _ _ (by simp)
  have HRES := Lib.hid hres
  have HXB := Lib.hid hbX
  have HC := Lib.hid (insert_any W0 900 t X l ad cap true hm (by omega) (hL.below hbX) (hW.trans (hbX.mono hW.size)) (hrow.below hbX) hrd hcap hn hb)
  clear hL hW hrow hrd hcap hn hbX hres
  simp only [trV] at HC ⊢
  go_enter Try.func15, Try.ntmps15
  go_wp2_with (go_at_call 37; refine Stop.here ?_)
  refine Stop.on ?_
  rw [show (w.alloc (.cells #[.int .i64 t.s.g, .int .i64 t.s.c, .slice t.s.ga t.s.gs.length t.s.gc, .slice t.s.ta t.s.ts.length t.s.tc, .slice t.ad t.ks.length t.cap] 33)).alloc (.cells #[.int .i64 0, .int .i64 0, .slice none 0 0, .slice none 0 0, .slice none 0 0] 33) = X from hX.symm]
  clear hX
  refine HC.out.mono ?_
  rintro e w1 ⟨t', p, rfl, rfl, hsh, hl, hf⟩
  have HF := Lib.hid (fun wF hg => ins_box (b := w.heap.size + 1) (wF := wF) (below_gw HXB.out HXB.out.size p) (by omega) hsh hl (hf.mono HXB.out.size) (Avoid.of_fresh hf (by omega)) hg)
  have hR2 := (gw_heap X p (w.heap.size + 1) (by omega)).trans HRES.out
  have HRR := Lib.hid hR2
  have hrc := row_cells HRR.out
  have r0 := (hrc 0).trans (show _ = some (.int .i64 0) from rfl)
  have r1 := (hrc 1).trans (show _ = some (.int .i64 0) from rfl)
  have r2 := (hrc 2).trans (show _ = some (.slice none 0 0) from rfl)
  have r3 := (hrc 3).trans (show _ = some (.slice none 0 0) from rfl)
  have r4 := (hrc 4).trans (show _ = some (.slice none 0 0) from rfl)
  have hbf : ∀ i, World.frozen? (gw X p) ⟨w.heap.size + 1, i, none⟩ = false := fun i => by simp [World.frozen?, HRR.out]
  have ob : Old (w.heap.size + 1) (gw X p) := Old.of_cell r0
  clear hsh hl hf hR2 hrc HC
  generalize gw X p = Z at *
  go_wp2
  refine bodyPost_ret (v := trV t') ?_ rfl (HF.out _ (grown_five Z (w.heap.size + 1) _ _ _ _ _))
  simp [results, Try.results15, go_sem, r0, r1, r2, r3, r4, PT.s, PT.ad, PT.ks, PT.cap]

end Go.Proofs.Ytmgiojkdcpolfaa
