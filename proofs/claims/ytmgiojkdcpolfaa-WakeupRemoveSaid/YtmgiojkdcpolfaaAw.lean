/- store, awake. -/
import Derived.Test.YtmgiojkdcpolfaaIw
import Derived.Test.YtmgiojkdcpolfaaSq
import Derived.Test.YtmgiojkdcpolfaaFw
import Derived.Test.YtmgiojkdcpolfaaPm
namespace Go.Proofs.Ytmgiojkdcpolfaa
open Go.RowKit Go.Sort PT

/-- A step of store. -/
structure StP (W : World) (g off : Int) (p : PS) : Prop where
  rd : Rd W p
  g' : p.g = g
  c' : p.c = 0
  gs' : p.gs = [g]
  ts' : p.ts = [(1, 0, off, true)]
theorem StP.below {W V : World} {g off : Int} {p : PS} (h : StP W g off p) (hb : Below W.heap.size W V) : StP V g off p := ⟨h.rd.below hb, h.g', h.c', h.gs', h.ts'⟩
set_option maxRecDepth 100000 in
theorem store_any (g off : Int) (w : World) : Calls Try.prog 33 #[.int .i64 g, .int .i64 off] w fun e w' => ∃ p, e = .returned (stv p) ∧ StP w' g off p ∧ Below w.heap.size w w' := by
  go_enter Try.func33, Try.ntmps33
  go_wp2
  refine bodyPost_ret (v := stv ⟨g, 0, some ⟨w.heap.size + 1, 0, none⟩, [g], 1, some ⟨w.heap.size + 1 + 1, 0, none⟩, [(1, 0, off, true)], 1⟩) ?_ rfl ⟨_, rfl, ⟨⟨Row.of_block (f := intC) (fun _ => rfl) (t := 3) (cs := #[.int .i64 g]) (fr := (0, 0)) ?_ (by simp), Row.of_block (f := tchC) (fun _ => rfl) (t := 70) (cs := #[.int .i64 1, .int .i64 0, .int .i64 off, .bool true]) (fr := (0, 0)) ?_ (by simp), by simp, by simp⟩, rfl, rfl, rfl, rfl⟩, (by repeat (first | exact Below.refl _ _ | refine below_gw ?_ (by simp; try omega) _ | refine Below.alloc ?_ (by simp; try omega) _ | refine Below.setCell ?_ (by simp; try omega) _ | refine Below.drew ?_))⟩
  · simp [results, Try.results33, go_sem]
  · rw [heap_alloc_past' _ _ _ (by simp [Old])]; exact heap_alloc_at' _ _ _ (by simp)
  · exact heap_alloc_at' _ _ _ (by simp)

/-- The three steps of the example, in their boxes. -/
structure AwS (W0 W : World) (a b c : PS) (ba bb bc : Nat) : Prop where
  ra : W.heap[ba]? = some (.cells (stC a).toArray 30 (0, 0))
  rb : W.heap[bb]? = some (.cells (stC b).toArray 30 (0, 0))
  rc : W.heap[bc]? = some (.cells (stC c).toArray 30 (0, 0))
  below : Below W0.heap.size W0 W
theorem AwS.mono {W0 W V : World} {a b c : PS} {ba bb bc : Nat} (h : AwS W0 W a b c ba bb bc) (hb : Below W.heap.size W V) : AwS W0 V a b c ba bb bc :=
  ⟨(hb.block _ (Array.getElem?_eq_some_iff.1 h.ra).1).trans h.ra, (hb.block _ (Array.getElem?_eq_some_iff.1 h.rb).1).trans h.rb, (hb.block _ (Array.getElem?_eq_some_iff.1 h.rc).1).trans h.rc, h.below.trans (hb.mono h.below.size)⟩
/-- A tree in its box. -/
structure TB (W0 W : World) (bt : Nat) (t : PT) : Prop where
  lies : Lies W0 W t
  row : W.heap[bt]? = some (.cells (trC t).toArray 33 (0, 0))
theorem TB.mono {W0 W V : World} {bt : Nat} {t : PT} (h : TB W0 W bt t) (hb : Below W.heap.size W V) : TB W0 V bt t :=
  ⟨h.lies.below hb, (hb.block _ (Array.getElem?_eq_some_iff.1 h.row).1).trans h.row⟩
theorem TB.cells {W0 W : World} {bt : Nat} {t : PT} (h : TB W0 W bt t) : W.cell? ⟨bt, 0, none⟩ = some (.int .i64 t.s.g) ∧ W.cell? ⟨bt, 1, none⟩ = some (.int .i64 t.s.c) ∧ W.cell? ⟨bt, 2, none⟩ = some (.slice t.s.ga t.s.gs.length t.s.gc) ∧ W.cell? ⟨bt, 3, none⟩ = some (.slice t.s.ta t.s.ts.length t.s.tc) ∧ W.cell? ⟨bt, 4, none⟩ = some (.slice t.ad t.ks.length t.cap) ∧ Old bt W :=
  ⟨(row_cells h.row 0).trans rfl, (row_cells h.row 1).trans rfl, (row_cells h.row 2).trans rfl, (row_cells h.row 3).trans rfl, (row_cells h.row 4).trans rfl, (Array.getElem?_eq_some_iff.1 h.row).1⟩
theorem TB.new {W0 W : World} {t : PT} (h : Lies W0 W t) : TB W0 (W.alloc (.cells (trC t).toArray 33)) W.heap.size t := ⟨h.below ((Below.refl _ _).alloc (Nat.le_refl _) _), heap_alloc_at' _ _ _ rfl⟩
abbrev s00 : PS := ⟨0, 0, none, [], 0, none, [], 0⟩
abbrev t00 : PT := .mk s00 none 0 []
theorem lies_t00 (W0 W : World) : Lies W0 W t00 := Lies.mk' ⟨Row.nil _, Row.nil _, by simp, by simp⟩ (Row.nil _) (fun _ e => by cases e) (fun _ h => absurd h (by simp))
theorem row_steps {W : World} {b : Nat} {t : TypeId} {cs : Array Value} {l : List PS} (h : W.heap[b]? = some (.cells cs t (0, 0))) (e : cs.toList = l.flatMap stC) : Row 4 stC W (some ⟨b, 0, none⟩) l := Row.of_block stC_len h e

/-- A list of paths comes back. -/
def PV (ls : List (List PS)) (w : World) (v : Value) : Prop := ∃ ad cap ps, v = .slice ad ps.length cap ∧ ps.map PA.l = ls ∧ Pths w ad ps
theorem PV.gw {ls : List (List PS)} {w : World} {v : Value} (h : PV ls w v) (q : Regrown) : PV ls (gw w q) v := by
  obtain ⟨ad, cap, ps, h1, h2, h3⟩ := h
  exact ⟨ad, cap, ps, h1, h2, h3.gw q⟩
theorem PathsPost.pv {W0 w : World} {ls : List (List PS)} {e : Ending} {w' : World} (h : PathsPost W0 ls w e w') (hW : Below W0.heap.size W0 w) (hl : ∀ p ∈ ls, p.length ≤ 1000) : ∃ v, e = .returned v ∧ PV ls w' v ∧ ∃ q : Regrown, w' = Go.Proofs.Ytmgiojkdcpolfaa.gw w q := by
  obtain ⟨v, ps, q, h1, h2, h3, h4, h5⟩ := h
  obtain ⟨ad, cap, rfl, _, _⟩ := own_val h4
  have hb : Below W0.heap.size W0 w' := hW.trans (by rw [h2]; exact (gw_below w q).mono hW.size)
  exact ⟨_, h1, ⟨ad, cap, ps, rfl, h3, row_own paC_len h4 rfl, fun x hx => ⟨⟨(h5 x hx).1, fun s hs => ((h5 x hx).2.2.2 s hs).below hb⟩, hl _ (by rw [← h3]; exact List.mem_map_of_mem hx)⟩⟩, q, h2⟩

theorem pv_two {W0 W : World} {a b : PS} {g1 g2 : Nat} (ha : StP W0 0 0 a) (hb : StP W0 1 0 b) (hW : Below W0.heap.size W0 W) (k1 : W.heap[g1]? = some (.cells (stC a ++ stC b).toArray 30 (0, 0))) (k2 : W.heap[g2]? = some (.cells (stC b ++ stC a).toArray 30 (0, 0))) :
    PV [[a, b], [b, a]] (W.alloc (.cells #[.slice (some ⟨g1, 0, none⟩) 2 2, .slice (some ⟨g2, 0, none⟩) 2 2] 41)) (.slice (some ⟨W.heap.size, 0, none⟩) 2 2) := by
  refine ⟨some ⟨W.heap.size, 0, none⟩, 2, [⟨some ⟨g1, 0, none⟩, [a, b], 2⟩, ⟨some ⟨g2, 0, none⟩, [b, a], 2⟩], rfl, rfl, ?_⟩
  have hX : Below W.heap.size W (W.alloc (.cells #[.slice (some ⟨g1, 0, none⟩) 2 2, .slice (some ⟨g2, 0, none⟩) 2 2] 41)) := (Below.refl _ _).alloc (Nat.le_refl _) _
  have ra : Rd W a := ha.rd.below hW
  have rb : Rd W b := hb.rd.below hW
  refine ⟨Row.of_block paC_len (heap_alloc_at' _ _ _ rfl) (by simp), fun q hq => ?_⟩
  simp only [List.mem_cons, List.not_mem_nil, or_false] at hq
  rcases hq with rfl | rfl
  · exact ⟨Sts.below ⟨row_steps k1 (by simp), fun p hp => by
      simp only [List.mem_cons, List.not_mem_nil, or_false] at hp
      rcases hp with rfl | rfl
      · exact ra
      · exact rb⟩ hX, by simp⟩
  · exact ⟨Sts.below ⟨row_steps k2 (by simp), fun p hp => by
      simp only [List.mem_cons, List.not_mem_nil, or_false] at hp
      rcases hp with rfl | rfl
      · exact rb
      · exact ra⟩ hX, by simp⟩

set_option maxRecDepth 100000 in
set_option maxHeartbeats 4000000 in
theorem awake_any (w : World) : Calls Try.prog 9 #[] w (Gives (.bool true) w) := by
  go_enter Try.func9, Try.ntmps9
  go_wp2_with (go_at_call 33; refine Stop.here ?_)
  refine Stop.on ?_
  refine (store_any 0 0 w).mono ?_
  rintro e w1 ⟨a, rfl, ha, hb1⟩
  have ha := Lib.hid ha
  have hb1 := Lib.hid hb1
  go_wp2_with (go_at_call 33; refine Stop.here ?_)
  refine Stop.on ?_
  obtain ⟨X1, hX1⟩ : ∃ X1, X1 = w1.alloc (.cells (stC a).toArray 30) := ⟨_, rfl⟩
  rw [show w1.alloc (.cells #[.int .i64 a.g, .int .i64 a.c, .slice a.ga a.gs.length a.gc, .slice a.ta a.ts.length a.tc] 30) = X1 from hX1.symm]
  have r1 := Lib.hid (show X1.heap[w1.heap.size]? = some (.cells (stC a).toArray 30 (0, 0)) by rw [hX1]; exact heap_alloc_at' _ _ _ rfl)
  have hB1 := Lib.hid (show Below w1.heap.size w1 X1 by rw [hX1]; exact (Below.refl _ _).alloc (Nat.le_refl _) _)
  clear hX1
  refine (store_any 1 0 X1).mono ?_
  rintro e w2 ⟨b, rfl, hb, hb2⟩
  have hb := Lib.hid hb
  have hb2 := Lib.hid hb2
  go_wp2_with (go_at_call 33; refine Stop.here ?_)
  refine Stop.on ?_
  obtain ⟨X2, hX2⟩ : ∃ X2, X2 = w2.alloc (.cells (stC b).toArray 30) := ⟨_, rfl⟩
  rw [show w2.alloc (.cells #[.int .i64 b.g, .int .i64 b.c, .slice b.ga b.gs.length b.gc, .slice b.ta b.ts.length b.tc] 30) = X2 from hX2.symm]
  have r2 := Lib.hid (show X2.heap[w2.heap.size]? = some (.cells (stC b).toArray 30 (0, 0)) by rw [hX2]; exact heap_alloc_at' _ _ _ rfl)
  have hB2 := Lib.hid (show Below w2.heap.size w2 X2 by rw [hX2]; exact (Below.refl _ _).alloc (Nat.le_refl _) _)
  clear hX2
  refine (store_any 2 1 X2).mono ?_
  rintro e W0 ⟨c, rfl, hc, hb3⟩
  have hc := Lib.hid hc
  have sC := hc
  have hb3 := Lib.hid hb3
  have HX1 := Lib.hid (hB1.out.mono (Nat.le_refl _))
  have h1 : X1.heap.size ≤ w2.heap.size := hb2.out.size
  have rA := Lib.hid ((hb3.out.block _ (Nat.lt_of_lt_of_le (Nat.lt_of_lt_of_le (Array.getElem?_eq_some_iff.1 r1.out).1 h1) hB2.out.size)).trans ((hB2.out.block _ (Nat.lt_of_lt_of_le (Array.getElem?_eq_some_iff.1 r1.out).1 h1)).trans ((hb2.out.block _ (Array.getElem?_eq_some_iff.1 r1.out).1).trans r1.out)))
  have rB := Lib.hid ((hb3.out.block _ (Array.getElem?_eq_some_iff.1 r2.out).1).trans r2.out)
  have sA := Lib.hid (((ha.out.below hB1.out).below hb2.out).below hB2.out |>.below hb3.out)
  have sB := Lib.hid ((hb.out.below hB2.out).below hb3.out)
  have hW0 := Lib.hid (show Below w.heap.size w W0 from hb1.out.trans ((hB1.out.mono hb1.out.size).trans ((hb2.out.mono (Nat.le_trans hb1.out.size hB1.out.size)).trans ((hB2.out.mono (Nat.le_trans hb1.out.size (Nat.le_trans hB1.out.size h1))).trans (hb3.out.mono (Nat.le_trans hb1.out.size (Nat.le_trans hB1.out.size (Nat.le_trans h1 hB2.out.size))))))))
  clear h1 HX1 r1 r2 ha hb hB1 hB2 hb1 hb2 hb3
  generalize w1.heap.size = ba at *
  generalize w2.heap.size = bb at *
  have HS := Lib.hid (show AwS W0 (W0.alloc (.cells (stC c).toArray 30)) a b c ba bb W0.heap.size from
    ⟨by rw [heap_alloc_past' _ _ _ (Array.getElem?_eq_some_iff.1 rA.out).1]; exact rA.out, by rw [heap_alloc_past' _ _ _ (Array.getElem?_eq_some_iff.1 rB.out).1]; exact rB.out, heap_alloc_at' _ _ _ rfl, (Below.refl _ _).alloc (Nat.le_refl _) _⟩)
  obtain ⟨a0, a1, a2, a3⟩ := box_step rA.out
  obtain ⟨b0, b1, b2, b3⟩ := box_step rB.out
  have oa : Old ba W0 := Old.of_cell a0
  have ob : Old bb W0 := Old.of_cell b0
  go_wp2_with (go_at_call 15; refine Stop.here ?_)
  refine Stop.on ?_
  clear a0 a1 a2 a3 b0 b1 b2 b3 oa ob rA rB
  obtain ⟨X, hX⟩ : ∃ X, X = W0.alloc (.cells (stC c).toArray 30) := ⟨_, rfl⟩
  rw [show W0.alloc (.cells #[.int .i64 c.g, .int .i64 c.c, .slice c.ga c.gs.length c.gc, .slice c.ta c.ts.length c.tc] 30) = X from hX.symm]
  rw [← hX] at HS
  rw [show W0.heap.size + 1 = X.heap.size by rw [hX]; simp]
  clear hX
  generalize W0.heap.size = bc at *
  obtain ⟨V, hV⟩ : ∃ V, V = X.alloc (.cells (stC a ++ stC b).toArray 30) := ⟨_, rfl⟩
  rw [show X.alloc (.cells #[.int .i64 a.g, .int .i64 a.c, .slice a.ga a.gs.length a.gc, .slice a.ta a.ts.length a.tc, .int .i64 b.g, .int .i64 b.c, .slice b.ga b.gs.length b.gc, .slice b.ta b.ts.length b.tc] 30) = V from hV.symm]
  have hXV : Below X.heap.size X V := by rw [hV]; exact (Below.refl _ _).alloc (Nat.le_refl _) _
  have HS2 := Lib.hid (HS.out.mono hXV)
  have hrow := row_steps (l := [a, b]) (show V.heap[X.heap.size]? = some (.cells (stC a ++ stC b).toArray 30 (0, 0)) by rw [hV]; exact heap_alloc_at' _ _ _ rfl) (by simp)
  have hc1 := insertP_any W0 t00 V [a, b] (some ⟨X.heap.size, 0, none⟩) 2 (by simp [nodes, nodesL]) (lies_t00 _ _) HS2.out.below hrow (fun p hp => by
    rcases List.mem_cons.1 hp with rfl | hp
    · exact sA.out.rd
    · rw [List.mem_singleton.1 hp]; exact sB.out.rd) (by simp) (fun h => by cases h) (by simp)
  refine hc1.mono ?_
  rintro e Z ⟨t1, p1, rfl, hz, hs, hl, _⟩
  have HZ := Lib.hid (show Below V.heap.size V Z by rw [hz]; exact gw_below _ _)
  have HS := Lib.hid (HS2.out.mono HZ.out)
  have hs1 := Lib.hid hs
  have hl1 := Lib.hid hl
  clear hs hl hV hrow hc1 hz hXV HS2 HZ
  have hcn1 := Lib.hid (show cnt (insT (sh t00) [a, b] true) ≤ 900 from Nat.le_trans (insT_cnt _ _ _) (by simp [sh, shL, cnt, cntL]))
  obtain ⟨a0, a1, a2, a3⟩ := box_step HS.out.ra
  obtain ⟨b0, b1, b2, b3⟩ := box_step HS.out.rb
  obtain ⟨c0, c1, c2, c3⟩ := box_step HS.out.rc
  have oa : Old ba Z := Old.of_cell a0
  have ob : Old bb Z := Old.of_cell b0
  have oc : Old bc Z := Old.of_cell c0
  go_wp2_with (go_at_call 15; refine Stop.here ?_)
  refine Stop.on ?_
  clear a0 a1 a2 a3 b0 b1 b2 b3 c0 c1 c2 c3 oa ob oc
  obtain ⟨X, hX⟩ : ∃ X, X = Z.alloc (.cells (trC t1).toArray 33) := ⟨_, rfl⟩
  rw [show Z.alloc (.cells #[.int .i64 t1.s.g, .int .i64 t1.s.c, .slice t1.s.ga t1.s.gs.length t1.s.gc, .slice t1.s.ta t1.s.ts.length t1.s.tc, .slice t1.ad t1.ks.length t1.cap] 33) = X from hX.symm]
  have hZX : Below Z.heap.size Z X := by rw [hX]; exact (Below.refl _ _).alloc (Nat.le_refl _) _
  have HTN1 := Lib.hid (show TB W0 X Z.heap.size t1 by rw [hX]; exact TB.new hl1.out)
  have HSX := Lib.hid (HS.out.mono hZX)
  rw [show Z.heap.size + 1 = X.heap.size by rw [hX]; simp]
  clear hX HS hZX hl1
  generalize Z.heap.size = bt1 at *
  obtain ⟨V, hV⟩ : ∃ V, V = X.alloc (.cells (stC c ++ stC a ++ stC b).toArray 30) := ⟨_, rfl⟩
  rw [show X.alloc (.cells #[.int .i64 c.g, .int .i64 c.c, .slice c.ga c.gs.length c.gc, .slice c.ta c.ts.length c.tc, .int .i64 a.g, .int .i64 a.c, .slice a.ga a.gs.length a.gc, .slice a.ta a.ts.length a.tc, .int .i64 b.g, .int .i64 b.c, .slice b.ga b.gs.length b.gc, .slice b.ta b.ts.length b.tc] 30) = V from hV.symm]
  have hXV : Below X.heap.size X V := by rw [hV]; exact (Below.refl _ _).alloc (Nat.le_refl _) _
  have HS2 := Lib.hid (HSX.out.mono hXV)
  have HTM1 := Lib.hid (HTN1.out.mono hXV)
  clear HTN1
  have hrow := row_steps (l := [c, a, b]) (show V.heap[X.heap.size]? = some (.cells (stC c ++ stC a ++ stC b).toArray 30 (0, 0)) by rw [hV]; exact heap_alloc_at' _ _ _ rfl) (by simp)
  have hc1 := insertP_any W0 t1 V [c, a, b] (some ⟨X.heap.size, 0, none⟩) 3 (by rw [nodes_cnt, hs1.out]; exact hcn1.out) HTM1.out.lies HS2.out.below hrow (fun p hp => by
    simp only [List.mem_cons, List.not_mem_nil, or_false] at hp
    rcases hp with rfl | rfl | rfl
    · exact sC.out.rd
    · exact sA.out.rd
    · exact sB.out.rd
    ) (by simp) (fun h => by cases h) (by simp)
  refine hc1.mono ?_
  rintro e Z2 ⟨t2, p1, rfl, hz, hs, hl, _⟩
  have HZ := Lib.hid (show Below V.heap.size V Z2 by rw [hz]; exact gw_below _ _)
  have HS := Lib.hid (HS2.out.mono HZ.out)
  have HT1 := Lib.hid (HTM1.out.mono HZ.out)
  clear HTM1
  have hs2 := Lib.hid (show sh t2 = _ from hs)
  have hl2 := Lib.hid hl
  clear hV hrow hc1 hz hs hl hXV HS2 HSX HZ
  have hcn2 := Lib.hid (show cnt (insT (sh t1) [c, a, b] true) ≤ 900 from Nat.le_trans (insT_cnt _ _ _) (by rw [hs1.out]; have := insT_cnt (sh t00) [a, b] true; simp [sh, shL, cnt, cntL] at this ⊢; omega))
  obtain ⟨a0, a1, a2, a3⟩ := box_step HS.out.ra
  obtain ⟨b0, b1, b2, b3⟩ := box_step HS.out.rb
  obtain ⟨c0, c1, c2, c3⟩ := box_step HS.out.rc
  have oa : Old ba Z2 := Old.of_cell a0
  have ob : Old bb Z2 := Old.of_cell b0
  have oc : Old bc Z2 := Old.of_cell c0
  go_wp2_with (go_at_call 15; refine Stop.here ?_)
  refine Stop.on ?_
  clear a0 a1 a2 a3 b0 b1 b2 b3 c0 c1 c2 c3 oa ob oc
  obtain ⟨X, hX⟩ : ∃ X, X = Z2.alloc (.cells (trC t2).toArray 33) := ⟨_, rfl⟩
  rw [show Z2.alloc (.cells #[.int .i64 t2.s.g, .int .i64 t2.s.c, .slice t2.s.ga t2.s.gs.length t2.s.gc, .slice t2.s.ta t2.s.ts.length t2.s.tc, .slice t2.ad t2.ks.length t2.cap] 33) = X from hX.symm]
  have hZX : Below Z2.heap.size Z2 X := by rw [hX]; exact (Below.refl _ _).alloc (Nat.le_refl _) _
  have HTN2 := Lib.hid (show TB W0 X Z2.heap.size t2 by rw [hX]; exact TB.new hl2.out)
  have HTN1 := Lib.hid (HT1.out.mono hZX)
  clear HT1
  have HSX := Lib.hid (HS.out.mono hZX)
  rw [show Z2.heap.size + 1 = X.heap.size by rw [hX]; simp]
  clear hX HS hZX hl2
  generalize Z2.heap.size = bt2 at *
  obtain ⟨V, hV⟩ : ∃ V, V = X.alloc (.cells (stC b ++ stC a).toArray 30) := ⟨_, rfl⟩
  rw [show X.alloc (.cells #[.int .i64 b.g, .int .i64 b.c, .slice b.ga b.gs.length b.gc, .slice b.ta b.ts.length b.tc, .int .i64 a.g, .int .i64 a.c, .slice a.ga a.gs.length a.gc, .slice a.ta a.ts.length a.tc] 30) = V from hV.symm]
  have hXV : Below X.heap.size X V := by rw [hV]; exact (Below.refl _ _).alloc (Nat.le_refl _) _
  have HS2 := Lib.hid (HSX.out.mono hXV)
  have HTM1 := Lib.hid (HTN1.out.mono hXV)
  clear HTN1
  have HTM2 := Lib.hid (HTN2.out.mono hXV)
  clear HTN2
  have hrow := row_steps (l := [b, a]) (show V.heap[X.heap.size]? = some (.cells (stC b ++ stC a).toArray 30 (0, 0)) by rw [hV]; exact heap_alloc_at' _ _ _ rfl) (by simp)
  have hc1 := insertP_any W0 t2 V [b, a] (some ⟨X.heap.size, 0, none⟩) 2 (by rw [nodes_cnt, hs2.out]; exact hcn2.out) HTM2.out.lies HS2.out.below hrow (fun p hp => by
    simp only [List.mem_cons, List.not_mem_nil, or_false] at hp
    rcases hp with rfl | rfl
    · exact sB.out.rd
    · exact sA.out.rd
    ) (by simp) (fun h => by cases h) (by simp)
  refine hc1.mono ?_
  rintro e Z3 ⟨t3, p1, rfl, hz, hs, hl, _⟩
  have HZ := Lib.hid (show Below V.heap.size V Z3 by rw [hz]; exact gw_below _ _)
  have HS := Lib.hid (HS2.out.mono HZ.out)
  have HT1 := Lib.hid (HTM1.out.mono HZ.out)
  clear HTM1
  have HT2 := Lib.hid (HTM2.out.mono HZ.out)
  clear HTM2
  have hs3 := Lib.hid (show sh t3 = _ from hs)
  have hl3 := Lib.hid hl
  clear hV hrow hc1 hz hs hl hXV HS2 HSX HZ
  have hcn3 := Lib.hid (show cnt (insT (sh t2) [b, a] true) ≤ 900 from Nat.le_trans (insT_cnt _ _ _) (by rw [hs2.out]; have := insT_cnt (sh t1) [c, a, b] true; rw [hs1.out] at this; have h2 := insT_cnt (sh t00) [a, b] true; simp [sh, shL, cnt, cntL] at this h2 ⊢; rw [hs1.out]; simp [sh, shL]; omega))
  obtain ⟨X, hX⟩ : ∃ X, X = Z3.alloc (.cells (trC t3).toArray 33) := ⟨_, rfl⟩
  have hX' := Lib.hid (show Z3.alloc (.cells #[.int .i64 t3.s.g, .int .i64 t3.s.c, .slice t3.s.ga t3.s.gs.length t3.s.gc, .slice t3.s.ta t3.s.ts.length t3.s.tc, .slice t3.ad t3.ks.length t3.cap] 33) = X from hX.symm)
  have hZX := Lib.hid (show Below Z3.heap.size Z3 X by rw [hX]; exact (Below.refl _ _).alloc (Nat.le_refl _) _)
  have HT3 := Lib.hid (show TB W0 X Z3.heap.size t3 by rw [hX]; exact TB.new hl3.out)
  clear hX
  have hqb : ∀ q : Regrown, Below X.heap.size X (gw X.drew q) := fun q => ((Below.refl _ X).drew).trans (gw_below X.drew q)
  have HSQ := Lib.hid (fun q => (HS.out.mono hZX.out).mono (hqb q))
  have HQ1 := Lib.hid (fun q => (HT1.out.mono hZX.out).mono (hqb q))
  have HQ2 := Lib.hid (fun q => (HT2.out.mono hZX.out).mono (hqb q))
  have HQ3 := Lib.hid (fun q => HT3.out.mono (hqb q))
  have e1 : sh t1 = .nd s00 (chain [a, b]) := by rw [hs1.out, sh_eq]; exact aw1 _ _ _
  have e2 : sh t2 = .nd s00 (chain [a, b]) := by rw [hs2.out, e1]; exact aw2 (by simp [pk, sC.out.g', sA.out.g']) (by simp [dep, tdep, sC.out.gs', sA.out.gs', sC.out.ts', sA.out.ts']) (by simp [pk, sC.out.g', sB.out.g']) (by simp [dep, tdep, sC.out.gs', sB.out.gs', sC.out.ts', sB.out.ts'])
  have e3 : sh t3 = .nd s00 (chain [a, b] ++ chain [b, a]) := by rw [hs3.out, e2]; exact aw3 (by simp [pk, sB.out.g', sA.out.g']) (by simp [dep, tdep, sB.out.gs', sA.out.gs', sB.out.ts', sA.out.ts'])
  have f1 : lvK [] (t1.ks.map sh) = [[a, b]] := by have h := congrArg T.ks e1; rw [sh_eq] at h; simp only [T.ks] at h; rw [h, lvK_chain]; rfl
  have f2 : lvK [] (t2.ks.map sh) = [[a, b]] := by have h := congrArg T.ks e2; rw [sh_eq] at h; simp only [T.ks] at h; rw [h, lvK_chain]; rfl
  have f3 : lvK [] (t3.ks.map sh) = [[a, b], [b, a]] := by have h := congrArg T.ks e3; rw [sh_eq] at h; simp only [T.ks] at h; rw [h, lvK_append, lvK_chain, lvK_chain]; rfl
  have HC1 := Lib.hid (fun q => (pathsP_any W0 (gw X.drew q) t1 (HQ1.out q).lies (HSQ.out q).below (by rw [nodes_cnt, hs1.out]; exact hcn1.out) (by rw [f1]; simp)).mono fun e w' h => h.pv (HSQ.out q).below (by rw [f1]; simp))
  have HC2 := Lib.hid (fun q => (pathsP_any W0 (gw X.drew q) t2 (HQ2.out q).lies (HSQ.out q).below (by rw [nodes_cnt, hs2.out]; exact hcn2.out) (by rw [f2]; simp)).mono fun e w' h => h.pv (HSQ.out q).below (by rw [f2]; simp))
  have HC3 := Lib.hid (fun q => (pathsP_any W0 (gw X.drew q) t3 (HQ3.out q).lies (HSQ.out q).below (by rw [nodes_cnt, hs3.out]; exact hcn3.out) (by rw [f3]; simp)).mono fun e w' h => h.pv (HSQ.out q).below (by rw [f3]; simp))
  rw [f1] at HC1
  rw [f2] at HC2
  rw [f3] at HC3
  clear e1 e2 e3 f1 f2 f3 hs1 hs2 hs3 hcn1 hcn2 hcn3 hqb
  go_wp2
  rw [hX'.out]
  clear hX' HT1 HT2 HT3 hl3 hZX
  generalize Z3.heap.size = bt3 at *
  refine wp_region_relP 28 [26, 27, 28, 29, 30, 31, 32, 33, 34, 35, 36, 37, 38, 39, 40, 41, 42, 43, 44, 45, 46, 47, 48, 49, 50, 51, 52, 53] [fun _ v => v = trV t1, fun w' v => PV [[a, b]] w' v, fun _ v => v = .int .i64 1, fun _ v => v = .bool true, fun _ v => v = .bool true, fun _ v => v = trV t2, fun w' v => PV [[a, b]] w' v, fun _ v => v = .int .i64 1, fun _ v => v = .bool true, fun _ v => v = .bool true, fun _ v => v = .bool true, fun _ v => v = trV t3, fun w' v => PV [[a, b], [b, a]] w' v, fun _ v => v = .int .i64 2, fun _ v => v = .bool true, fun _ v => v = .bool true, fun _ v => v = .bool true, fun _ v => v = trV t3, fun w' v => PV [[a, b], [b, a]] w' v, fun _ v => v = stv a, fun _ v => v = stv b, fun w' v => ∃ g, v = .slice (some ⟨g, 0, none⟩) 2 2 ∧ w'.heap[g]? = some (.cells (stC a ++ stC b).toArray 30 (0, 0)), fun _ v => v = stv b, fun _ v => v = stv a, fun w' v => ∃ g, v = .slice (some ⟨g, 0, none⟩) 2 2 ∧ w'.heap[g]? = some (.cells (stC b ++ stC a).toArray 30 (0, 0)), fun w' v => PV [[a, b], [b, a]] w' v, fun _ v => v = .bool true, fun _ v => v = .bool true] (by kernel_rfl) (by kernel_rfl) rfl rfl (by simp only [List.drop_succ_cons, List.drop_zero]; rfl) (by decide) rfl (by kernel_rfl) ?_ ?_ ?_
  · exact ⟨fun _ _ _ h => h, fun _ _ q h => h.gw q, fun _ _ _ h => h, fun _ _ _ h => h, fun _ _ _ h => h, fun _ _ _ h => h, fun _ _ q h => h.gw q, fun _ _ _ h => h, fun _ _ _ h => h, fun _ _ _ h => h, fun _ _ _ h => h, fun _ _ _ h => h, fun _ _ q h => h.gw q, fun _ _ _ h => h, fun _ _ _ h => h, fun _ _ _ h => h, fun _ _ _ h => h, fun _ _ _ h => h, fun _ _ q h => h.gw q, fun _ _ _ h => h, fun _ _ _ h => h, fun _ _ q ⟨g, h1, h2⟩ => ⟨g, h1, (gw_heap _ _ _ (Array.getElem?_eq_some_iff.1 h2).1).trans h2⟩, fun _ _ _ h => h, fun _ _ _ h => h, fun _ _ q ⟨g, h1, h2⟩ => ⟨g, h1, (gw_heap _ _ _ (Array.getElem?_eq_some_iff.1 h2).1).trans h2⟩, fun _ _ q h => h.gw q, fun _ _ _ h => h, fun _ _ _ h => h, trivial⟩
  · refine ⟨?_, ?_, ?_, ?_, ?_, ?_, ?_, ?_, ?_, ?_, ?_, ?_, ?_, ?_, ?_, ?_, ?_, ?_, ?_, ?_, ?_, ?_, ?_, ?_, ?_, ?_, ?_, ?_, trivial⟩
    · refine relAt_seen [4] rfl rfl rfl fun r q hs => ?_
      simp [allSeen, FofL, slot] at hs
      obtain ⟨u0, u1, u2, u3, u4, _⟩ := (HQ1.out q).cells
      simp [execOp, relUpon, FofL, go_sem, gw_ex_self, hs, u0, u1, u2, u3, u4]
    · refine relAt_seen [26] rfl rfl rfl fun r q hs => ?_
      simp [allSeen, FofL, slot] at hs
      simp only [execOp, relUpon, resolve, invoke, Sem.run_bind, List.map_toArray, List.map_cons, List.map_nil, Act.eval, Array.getD_eq_getD_getElem?, hs]
      simp [go_sem]
      refine (HC1.out q).mono ?_
      rintro e w' ⟨v, rfl, hv, q', rfl⟩
      refine ⟨_, rfl, ?_, q', rfl⟩
      simp only [FofL, Nat.reduceEqDiff, if_true, if_false]
      exact hv
    · refine relAt_seen [27] rfl rfl rfl fun r q hs => ?_
      simp [allSeen, FofL, slot] at hs
      obtain ⟨ad, cap, ps, hv, hl, _⟩ := hs
      have hn : ps.length = 1 := by simpa using congrArg List.length hl
      simp [relUpon, FofL, go_sem, gw_ex_self, hv, hn]
    · refine relAt_seen [28] rfl rfl rfl fun r q hs => ?_
      simp [allSeen, FofL, slot] at hs
      simp [execOp, relUpon, FofL, go_sem, gw_ex_self, hs]
    · refine relAt_seen [29] rfl rfl rfl fun r q hs => ?_
      simp [allSeen, FofL, slot] at hs
      simp [execOp, relUpon, FofL, go_sem, gw_ex_self, hs]
    · refine relAt_want [5, 30] rfl 4 30 true rfl rfl (by simp) (fun w v h => by simpa [FofL] using h) rfl fun r q hs => ?_
      simp [allSeen, FofL, slot] at hs
      obtain ⟨u0, u1, u2, u3, u4, _⟩ := (HQ2.out q).cells
      simp [execOp, relUpon, FofL, go_sem, gw_ex_self, hs, u0, u1, u2, u3, u4]
    · refine relAt_want [31, 30] rfl 4 30 true rfl rfl (by simp) (fun w v h => by simpa [FofL] using h) rfl fun r q hs => ?_
      simp [allSeen, FofL, slot] at hs
      simp only [execOp, relUpon, resolve, invoke, Sem.run_bind, List.map_toArray, List.map_cons, List.map_nil, Act.eval, Array.getD_eq_getD_getElem?, hs.1]
      simp [go_sem]
      refine (HC2.out q).mono ?_
      rintro e w' ⟨v, rfl, hv, q', rfl⟩
      refine ⟨_, rfl, ?_, q', rfl⟩
      simp only [FofL, Nat.reduceEqDiff, if_true, if_false]
      exact hv
    · refine relAt_want [32, 30] rfl 4 30 true rfl rfl (by simp) (fun w v h => by simpa [FofL] using h) rfl fun r q hs => ?_
      simp [allSeen, FofL, slot] at hs
      obtain ⟨ad, cap, ps, hv, hl, _⟩ := hs.1
      have hn : ps.length = 1 := by simpa using congrArg List.length hl
      simp [relUpon, FofL, go_sem, gw_ex_self, hv, hn]
    · refine relAt_want [33, 30] rfl 4 30 true rfl rfl (by simp) (fun w v h => by simpa [FofL] using h) rfl fun r q hs => ?_
      simp [allSeen, FofL, slot] at hs
      simp [execOp, relUpon, FofL, go_sem, gw_ex_self, hs]
    · refine relAt_seen [30, 34] rfl rfl rfl fun r q hs => ?_
      simp [allSeen, FofL, slot] at hs
      simp [execOp, relUpon, FofL, go_sem, gw_ex_self, hs]
    · refine relAt_seen [35] rfl rfl rfl fun r q hs => ?_
      simp [allSeen, FofL, slot] at hs
      simp [execOp, relUpon, FofL, go_sem, gw_ex_self, hs]
    · refine relAt_want [6, 36] rfl 10 36 true rfl rfl (by simp) (fun w v h => by simpa [FofL] using h) rfl fun r q hs => ?_
      simp [allSeen, FofL, slot] at hs
      obtain ⟨u0, u1, u2, u3, u4, _⟩ := (HQ3.out q).cells
      simp [execOp, relUpon, FofL, go_sem, gw_ex_self, hs, u0, u1, u2, u3, u4]
    · refine relAt_want [37, 36] rfl 10 36 true rfl rfl (by simp) (fun w v h => by simpa [FofL] using h) rfl fun r q hs => ?_
      simp [allSeen, FofL, slot] at hs
      simp only [execOp, relUpon, resolve, invoke, Sem.run_bind, List.map_toArray, List.map_cons, List.map_nil, Act.eval, Array.getD_eq_getD_getElem?, hs.1]
      simp [go_sem]
      refine (HC3.out q).mono ?_
      rintro e w' ⟨v, rfl, hv, q', rfl⟩
      refine ⟨_, rfl, ?_, q', rfl⟩
      simp only [FofL, Nat.reduceEqDiff, if_true, if_false]
      exact hv
    · refine relAt_want [38, 36] rfl 10 36 true rfl rfl (by simp) (fun w v h => by simpa [FofL] using h) rfl fun r q hs => ?_
      simp [allSeen, FofL, slot] at hs
      obtain ⟨ad, cap, ps, hv, hl, _⟩ := hs.1
      have hn : ps.length = 2 := by simpa using congrArg List.length hl
      simp [relUpon, FofL, go_sem, gw_ex_self, hv, hn]
    · refine relAt_want [39, 36] rfl 10 36 true rfl rfl (by simp) (fun w v h => by simpa [FofL] using h) rfl fun r q hs => ?_
      simp [allSeen, FofL, slot] at hs
      simp [execOp, relUpon, FofL, go_sem, gw_ex_self, hs]
    · refine relAt_seen [36, 40] rfl rfl rfl fun r q hs => ?_
      simp [allSeen, FofL, slot] at hs
      simp [execOp, relUpon, FofL, go_sem, gw_ex_self, hs]
    · refine relAt_seen [41] rfl rfl rfl fun r q hs => ?_
      simp [allSeen, FofL, slot] at hs
      simp [execOp, relUpon, FofL, go_sem, gw_ex_self, hs]
    · refine relAt_want [6, 42] rfl 16 42 true rfl rfl (by simp) (fun w v h => by simpa [FofL] using h) rfl fun r q hs => ?_
      simp [allSeen, FofL, slot] at hs
      obtain ⟨u0, u1, u2, u3, u4, _⟩ := (HQ3.out q).cells
      simp [execOp, relUpon, FofL, go_sem, gw_ex_self, hs, u0, u1, u2, u3, u4]
    · refine relAt_want [43, 42] rfl 16 42 true rfl rfl (by simp) (fun w v h => by simpa [FofL] using h) rfl fun r q hs => ?_
      simp [allSeen, FofL, slot] at hs
      simp only [execOp, relUpon, resolve, invoke, Sem.run_bind, List.map_toArray, List.map_cons, List.map_nil, Act.eval, Array.getD_eq_getD_getElem?, hs.1]
      simp [go_sem]
      refine (HC3.out q).mono ?_
      rintro e w' ⟨v, rfl, hv, q', rfl⟩
      refine ⟨_, rfl, ?_, q', rfl⟩
      simp only [FofL, Nat.reduceEqDiff, if_true, if_false]
      exact hv
    · refine relAt_want [1, 42] rfl 16 42 true rfl rfl (by simp) (fun w v h => by simpa [FofL] using h) rfl fun r q hs => ?_
      simp [allSeen, FofL, slot] at hs
      obtain ⟨u0, u1, u2, u3⟩ := box_step (HSQ.out q).ra
      simp [execOp, relUpon, FofL, go_sem, gw_ex_self, hs, u0, u1, u2, u3]
    · refine relAt_want [2, 42] rfl 16 42 true rfl rfl (by simp) (fun w v h => by simpa [FofL] using h) rfl fun r q hs => ?_
      simp [allSeen, FofL, slot] at hs
      obtain ⟨u0, u1, u2, u3⟩ := box_step (HSQ.out q).rb
      simp [execOp, relUpon, FofL, go_sem, gw_ex_self, hs, u0, u1, u2, u3]
    · refine relAt_want [45, 46, 42] rfl 16 42 true rfl rfl (by simp) (fun w v h => by simpa [FofL] using h) rfl fun r q hs => ?_
      simp [allSeen, FofL, slot] at hs
      simp [execOp, relUpon, go_sem, gw_ex_alloc, hs]
      simp only [FofL, Nat.reduceEqDiff, if_true, if_false]
      exact ⟨_, rfl, heap_alloc_at' _ _ _ (by simp)⟩
    · refine relAt_want [2, 42] rfl 16 42 true rfl rfl (by simp) (fun w v h => by simpa [FofL] using h) rfl fun r q hs => ?_
      simp [allSeen, FofL, slot] at hs
      obtain ⟨u0, u1, u2, u3⟩ := box_step (HSQ.out q).rb
      simp [execOp, relUpon, FofL, go_sem, gw_ex_self, hs, u0, u1, u2, u3]
    · refine relAt_want [1, 42] rfl 16 42 true rfl rfl (by simp) (fun w v h => by simpa [FofL] using h) rfl fun r q hs => ?_
      simp [allSeen, FofL, slot] at hs
      obtain ⟨u0, u1, u2, u3⟩ := box_step (HSQ.out q).ra
      simp [execOp, relUpon, FofL, go_sem, gw_ex_self, hs, u0, u1, u2, u3]
    · refine relAt_want [48, 49, 42] rfl 16 42 true rfl rfl (by simp) (fun w v h => by simpa [FofL] using h) rfl fun r q hs => ?_
      simp [allSeen, FofL, slot] at hs
      simp [execOp, relUpon, go_sem, gw_ex_alloc, hs]
      simp only [FofL, Nat.reduceEqDiff, if_true, if_false]
      exact ⟨_, rfl, heap_alloc_at' _ _ _ (by simp)⟩
    · refine relAt_want [47, 50, 42] rfl 16 42 true rfl rfl (by simp) (fun w v h => by simpa [FofL] using h) rfl fun r q hs => ?_
      simp [allSeen, FofL, slot] at hs
      obtain ⟨⟨g1, h1, k1⟩, ⟨g2, h2, k2⟩, _⟩ := hs
      simp [execOp, relUpon, go_sem, gw_ex_alloc, h1, h2]
      simp only [FofL, Nat.reduceEqDiff, if_true, if_false]
      simpa using pv_two sA.out sB.out (HSQ.out q).below k1 k2
    · refine relAt_want [44, 51, 42] rfl 16 42 true rfl rfl (by simp) (fun w v h => by simpa [FofL] using h) rfl fun r q hs => ?_
      simp [allSeen, FofL, slot] at hs
      obtain ⟨⟨a1, c1, p1, h44, l1, q1⟩, ⟨a2, c2, p2, h51, l2, q2⟩, _⟩ := hs
      simp only [execOp, relUpon, resolve, invoke, Sem.run_bind, List.map_toArray, List.map_cons, List.map_nil, Act.eval, Array.getD_eq_getD_getElem?, h44, h51]
      simp [go_sem]
      have hn1 : p1.length = 2 := by simpa using congrArg List.length l1
      have hn2 : p2.length = 2 := by simpa using congrArg List.length l2
      refine (samePaths_any a1 a2 p1 p2 c1 c2 _ q1 q2 (by omega) (by omega)).mono ?_
      rintro e w' ⟨rfl, q', rfl⟩
      refine ⟨_, rfl, ?_, q', rfl⟩
      simp only [FofL, Nat.reduceEqDiff, if_true, if_false]
      rw [samePs_refl (l1.trans l2.symm)]
    · refine relAt_seen [42, 52] rfl rfl rfl fun r q hs => ?_
      simp [allSeen, FofL, slot] at hs
      simp [execOp, relUpon, FofL, go_sem, gw_ex_self, hs]
  · intro vs' q hlen hv
    match vs', hlen with
    | [v26, v27, v28, v29, v30, v31, v32, v33, v34, v35, v36, v37, v38, v39, v40, v41, v42, v43, v44, v45, v46, v47, v48, v49, v50, v51, v52, v53], _ =>
      have h53 : v53 = .bool true := by
        simp only [relVals] at hv
        exact hv.2.2.2.2.2.2.2.2.2.2.2.2.2.2.2.2.2.2.2.2.2.2.2.2.2.2.2.1
      subst h53
      simp only [putL, Act.put]
      have HBF := Lib.hid (hW0.out.trans ((HSQ.out q).below.mono hW0.out.size))
      have he := Lib.hid (show true = true from rfl)
      go_wp2
      go_ret
      exact Gives.mk rfl HBF.out

end Go.Proofs.Ytmgiojkdcpolfaa
