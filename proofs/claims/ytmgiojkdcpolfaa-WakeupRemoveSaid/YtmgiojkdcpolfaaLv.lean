/- The iterator over the paths of a tree. -/
import Derived.Test.YtmgiojkdcpolfaaLf
namespace Go.Proofs.Ytmgiojkdcpolfaa
open Go.RowKit Go.Sort Go.Shelf PT
attribute [local go_sem] Oper.semAt_some

/-- The frame at the head of a round: k children are done, the marks Ds are laid. -/
def LFr (lp b1 b2 b3 : Nat) (tad : Option Addr) (tk tc k : Nat) (Ds : List Nat) (a : Act) : Prop := ∃ u5 u6 u7 u12 u13 u14 u15 u16 u17 u18 u19 u20 u21 u22 u23 u24 u25 u26 u27 u28 u29 u30 u31 u32 u33 u34 u35 u36 u37 u38 u39 : Value, a = { tmps := #[.func (.yield lp) #[] #[], .pointer (some ⟨b1, 0, none⟩), .pointer (some ⟨b2, 0, none⟩), .pointer (some ⟨b3, 0, none⟩), undef, u5, u6, u7, .pointer (some ⟨b1, 4, none⟩), .slice tad tk tc, .int .i64 (tk : Int), .int .i64 (k : Int), u12, u13, u14, u15, u16, u17, u18, u19, u20, u21, u22, u23, u24, u25, u26, u27, u28, u29, u30, u31, u32, u33, u34, u35, u36, u37, u38, u39], defers := Ds.map markOf }
theorem LFr.k {lp b1 b2 b3 : Nat} {tad : Option Addr} {tk tc k : Nat} {Ds : List Nat} {a : Act} (h : LFr lp b1 b2 b3 tad tk tc k Ds a) : a.tmps.getD 11 undef = .int .i64 k := by
  obtain ⟨_, _, _, _, _, _, _, _, _, _, _, _, _, _, _, _, _, _, _, _, _, _, _, _, _, _, _, _, _, _, _, rfl⟩ := h; rfl
/-- What holds there. -/
structure LS (X : World) (B n0 n b3 lp : Nat) (J : List PA → World → Prop) (Ds : List Nat) (xs : List PA) (W : World) : Prop where
  j : J xs W
  kp : KpL B n0 n X W
  b3 : Mine B W b3 #[.func (.yield lp) #[] #[]] 44
  marks : ∀ D ∈ Ds, X.heap.size ≤ D ∧ W.heap[D]? = some (.deferred (some []))
  nd : Ds.Nodup
def LI (X : World) (B n0 n b1 b2 b3 lp : Nat) (be : List PS) (tad : Option Addr) (tc : Nat) (ks : List PT) (J : List PA → World → Prop) (a : Act) (W : World) : Prop :=
  ∃ k Ds xs, k ≤ ks.length ∧ LFr lp b1 b2 b3 tad ks.length tc k Ds a ∧ xs.map PA.l = lvK be ((ks.take k).map sh) ∧ LS X B n0 n b3 lp J Ds xs W
theorem own_from_below {β : Type} {B0 : Nat} {J : β → World → Prop} (h : OwnFrom B0 J) {s : β} {A V : World} (hs : J s A) (hb : Below A.heap.size A V) : J s V :=
  h _ _ _ none hs ⟨hb.os, hb.tape, hb.output, hb.size, fun k hk _ => hb.block k hk⟩ (fun r e => by cases e)
section
variable {X W V : World} {B n0 n b3 lp B0 : Nat} {J : List PA → World → Prop} {Ds : List Nat} {xs : List PA}
theorem LS.below (h : LS X B n0 n b3 lp J Ds xs W) (hJ : OwnFrom B0 J) (hc : Cok B W) (hb : Below W.heap.size W V) (h0 : n0 ≤ W.heap.size) : LS X B n0 n b3 lp J Ds xs V :=
  ⟨own_from_below hJ h.j hb, h.kp.trans (KpL.of_below hc hb h0), h.b3.below hc hb, fun D hD => ⟨(h.marks D hD).1, (hb.block D (Array.getElem?_eq_some_iff.1 (h.marks D hD).2).1).trans (h.marks D hD).2⟩, h.nd⟩
theorem LS.round {x : PA} (h : LS X B n0 n b3 lp J Ds xs W) (hj : J (xs ++ [x]) V) (hk : KpL B n0 n W V) (hn : n ≤ X.heap.size) : LS X B n0 n b3 lp J Ds (xs ++ [x]) V :=
  ⟨hj, h.kp.trans hk, h.b3.kp hk, fun D hD => ⟨(h.marks D hD).1, hk.others _ _ (by have := (h.marks D hD).1; omega) (h.marks D hD).2 rfl⟩, h.nd⟩
theorem LS.keep (h : LS X B n0 n b3 lp J Ds xs W) (hJ : OwnFrom B0 J) (hc : Cok B W) {row : Option Nat} (hg : W.grownBy V row) {wl : Nat} (hr : ∀ r, row = some r → wl ≤ r ∧ ∃ o : Obj, W.heap[r]? = some o ∧ o.isCells = false) (h1 : B0 ≤ wl) (h2 : X.heap.size ≤ wl) (h3 : n0 ≤ X.heap.size) (hD : ∀ D ∈ Ds, D < wl) : LS X B n0 n b3 lp J Ds xs V := by
  exact ⟨hJ _ _ _ row h.j hg (fun r e => ⟨Nat.le_trans h1 (hr r e).1, (hr r e).2⟩), h.kp.keep hc hg (fun r e => ⟨Nat.le_trans h2 (hr r e).1, (hr r e).2⟩) h3, h.b3.keep hc hg (fun r e => (hr r e).2),
    fun D hD' => ⟨(h.marks D hD').1, (hg.block D (Array.getElem?_eq_some_iff.1 (h.marks D hD').2).1 (fun e => by have := hD D hD'; have := (hr D e.symm).1; omega)).trans (h.marks D hD').2⟩, h.nd⟩
end

theorem lvK_at (be : List PS) {ks : List PT} {k : Nat} {x : PT} (h : ks[k]? = some x) : (lvK be ((ks.take k).map sh)).length + (lvT be (sh x)).length ≤ (lvK be (ks.map sh)).length := by
  obtain ⟨h1, rfl⟩ := List.getElem?_eq_some_iff.1 h
  have e : ks.map sh = (ks.take k).map sh ++ (sh ks[k] :: (ks.drop (k + 1)).map sh) := by
    rw [← List.map_cons, ← List.map_append, ← List.drop_eq_getElem_cons h1, List.take_append_drop]
  rw [e, lvK_append, lvK]
  simp

theorem leaves_any (w : World) (t : PT) (be : PA) : Calls Try.prog 35 #[trV t, paV be] w fun e w' => e = .returned (.func (.func 63) #[] #[.pointer (some ⟨w.heap.size, 0, none⟩), .pointer (some ⟨w.heap.size + 1, 0, none⟩)]) ∧
    w' = (w.alloc (.cells (trC t).toArray 33)).alloc (.cells #[paV be] 41) := by
  obtain ⟨bad, bl, bc⟩ := be
  go_enter Try.func35, Try.ntmps35
  go_wp2
  go_ret
  exact ⟨rfl, rfl⟩

set_option maxRecDepth 100000 in
set_option maxHeartbeats 4000000 in
theorem leavesK_in (W0 Wt : World) (B : Nat) : ∀ (m : Nat) (t : PT) (be : PA) (lp n b1 b2 : Nat) (J : List PA → World → Prop) (W : World), (nodes t).length ≤ m → m ≤ 900 → be.l.length + (nodes t).length ≤ 950 → Lies W0 Wt t → Below Wt.heap.size Wt W → Below W0.heap.size W0 Wt →
    OwnFrom W.heap.size J → (∀ pre W, J pre W → Cok B W) → n ≤ W.heap.size →
    (∀ m' pre (x : PA) W1, pre.length < (lvK be.l (t.ks.map sh)).length → PAok W0 B W1 x → J pre W1 → YieldAt Fence.wide m' Try.prog lp #[paV x] W1 fun e W' => e = .returned (.bool true) ∧ J (pre ++ [x]) W' ∧ KpL B Wt.heap.size n W1 W') →
    Mine B W b1 (trC t).toArray 33 → Mine B W b2 #[paV be] 41 → PAok W0 B W be → J [] W →
    CallsIn Fence.wide 9 Try.prog 63 #[.func (.yield lp) #[] #[], .pointer (some ⟨b1, 0, none⟩), .pointer (some ⟨b2, 0, none⟩)] W fun e W' => (∃ v, e = .returned v) ∧ ∃ xs : List PA, xs.map PA.l = lvK be.l (t.ks.map sh) ∧ J xs W'
  | 0, t, _, _, _, _, _, _, _, h, _, _, _, _, _, _, _, _, _, _, _, _, _ => by have := nodes_pos t; omega
  | m + 1, t, be, lp, n, b1, b2, J, W, hm, hmm, hbl, hL, hWt, hW0, hJo, hJc, hn, hY, hm1, hm2, hbe, h0 => by
    obtain ⟨s, ad0, cap0, ks⟩ := t
    have IH := Lib.hid (leavesK_in W0 Wt B m)
    have HL := Lib.hid hL
    have HWT := Lib.hid hWt
    have HW0 := Lib.hid hW0
    have HJO := Lib.hid hJo
    have HJC := Lib.hid hJc
    have HY := Lib.hid hY
    have HM := Lib.hid hm
    have HBL := Lib.hid hbl
    have HC0 := Lib.hid (hJc _ _ h0)
    have hkl := kids_less (.mk s ad0 cap0 ks)
    simp only [PT.ks] at hkl
    have hkb : ks.length ≤ 950 := by omega
    obtain ⟨X, hX⟩ : ∃ X, X = W.alloc (.cells #[.func (.yield lp) #[] #[]] 44) := ⟨_, rfl⟩
    have hbX : Below W.heap.size W X := by rw [hX]; exact (Below.refl _ _).alloc (Nat.le_refl _) _
    have hX3 : Mine B X W.heap.size #[.func (.yield lp) #[] #[]] 44 := ⟨by rw [hX]; exact heap_alloc_at' _ _ _ rfl, cons_new HC0.out hbX (Nat.le_refl _)⟩
    have hXs : X.heap.size = W.heap.size + 1 := by rw [hX]; simp
    have HX1 := Lib.hid (hm1.below HC0.out hbX)
    have HX2 := Lib.hid (hm2.below HC0.out hbX)
    have HXB := Lib.hid (hbe.below HC0.out hbX)
    have HXT := Lib.hid (hWt.trans (hbX.mono hWt.size))
    have hJX : J [] X := by rw [hX]; exact hJo.alloc _ h0
    have HLS := Lib.hid (show LS X B Wt.heap.size n W.heap.size lp J [] [] X from ⟨hJX, KpL.refl _, hX3, fun _ h => absurd h (by simp), List.nodup_nil⟩)
    simp only [trC, PT.s, PT.ad, PT.cap, PT.ks] at HX1
    have c4 := (row_cells HX1.out.1 4).trans (show _ = some (.slice ad0 ks.length cap0) from rfl)
    have ob1 : Old b1 X := HX1.out.lt
    clear hL hWt hW0 hJo hJc hY hm hbl hkl hm1 hm2 hbe h0 hbX hX3 hJX
    refine callsIn_of_wp_marks Try.func63 rfl trivial (wpIn_wide.2 ?_)
    simp only [Try.ntmps63, List.size_toArray, List.length_cons, List.length_nil, Nat.reduceAdd, Nat.reduceSub, Array.replicate_succ, Array.replicate_zero, List.push_toArray, List.append_toArray, List.nil_append, List.cons_append]
    go_step
    go_step
    go_step
    go_step
    go_step
    go_step
    rw [show W.alloc (.cells #[.func (.yield lp) #[] #[]] 44) = X from hX.symm]
    clear hX
    generalize W.heap.size = b3 at *
    go_wp2
    refine wp_loop_k (LI X B Wt.heap.size n b1 b2 b3 lp be.l ad0 cap0 ks J) (fun a _ => ks.length - (intOf (a.tmps.getD 11 undef)).toNat) ⟨0, [], [], by omega, ⟨_, _, _, _, _, _, _, _, _, _, _, _, _, _, _, _, _, _, _, _, _, _, _, _, _, _, _, _, _, _, _, rfl⟩, by simp [lvK], HLS.out⟩ ?_
    rintro a wr ⟨k, Ds, xs, hk, ⟨u5, u6, u7, u12, u13, u14, u15, u16, u17, u18, u19, u20, u21, u22, u23, u24, u25, u26, u27, u28, u29, u30, u31, u32, u33, u34, u35, u36, u37, u38, u39, rfl⟩, hout, hls⟩ K hK
    clear HLS
    have HOUT := Lib.hid hout
    clear hout
    have HLS := Lib.hid hls
    clear hls
    by_cases hlt : k < ks.length
    · have kb : (k : Int) < ks.length := by omega
      obtain ⟨x, hx⟩ := get_some hlt
      obtain ⟨b, off, he, ho, hc⟩ := ((HL.out.below (HXT.out.trans HLS.out.kp.below))).self.row.get hx
      simp only [PT.ad] at he
      subst he
      have f0 := hc 0 (by omega)
      have f1 := hc 1 (by omega)
      have f2 := hc 2 (by omega)
      have f3 := hc 3 (by omega)
      have f4 := hc 4 (by omega)
      simp at f0 f1 f2 f3 f4
      have HX := Lib.hid hx
      clear hx hc
      go_wp2
      obtain ⟨i0, z0, HI⟩ := step_info
      have HCW := Lib.hid (HJC.out _ _ HLS.out.j)
      have hn0 : Wt.heap.size ≤ wr.heap.size := by have h1 := HXT.out.size; have h2 := HLS.out.kp.size; omega
      obtain ⟨V, hV⟩ : ∃ V, V = wr.alloc (.cells (trC x).toArray 33) := ⟨_, rfl⟩
      rw [show wr.alloc (.cells #[.int .i64 x.s.g, .int .i64 x.s.c, .slice x.s.ga x.s.gs.length x.s.gc, .slice x.s.ta x.s.ts.length x.s.tc, .slice x.ad x.ks.length x.cap] 33) = V from hV.symm]
      have HVB := Lib.hid (show Below wr.heap.size wr V by rw [hV]; exact (Below.refl _ _).alloc (Nat.le_refl _) _)
      have HKB := Lib.hid (show Mine B V wr.heap.size (trC x).toArray 33 from ⟨by rw [hV]; exact heap_alloc_at' _ _ _ rfl, cons_new HCW.out HVB.out (Nat.le_refl _)⟩)
      clear hV f0 f1 f2 f3 f4
      have HLV := Lib.hid (HLS.out.below HJO.out HCW.out HVB.out hn0)
      have HCV := Lib.hid (HCW.out.below HVB.out)
      have HBV := Lib.hid ((HXB.out.kp HLS.out.kp).below HCW.out HVB.out)
      have HM2 := Lib.hid ((HX2.out.kp HLS.out.kp).below HCW.out HVB.out)
      have hvs := HVB.out.size
      generalize wr.heap.size = bk at *
      have c2 := (row_cells HM2.out.1 0).trans (show _ = some (paV be) from rfl)
      have ob2 : Old b2 V := HM2.out.lt
      have hkx := row_cells HKB.out.1
      have obk : Old bk V := HKB.out.lt
      have hWV : Below W0.heap.size W0 V := HW0.out.trans (((HXT.out.trans HLS.out.kp.below).trans (HVB.out.mono (by omega))).mono HW0.out.size)
      have HSV := Lib.hid (show Sts V be.ad be.l from ⟨HBV.out.row, fun p hp => (HBV.out.rd p hp).below hWV⟩)
      have hbe' : be.l.length ≤ 949 := by have := HBL.out; have := nodes_pos (.mk s (some ⟨b, off, none⟩) cap0 ks); omega
      have HC := Lib.hid (fun q => clone_any be.ad be.l be.cap (gw V.drew q) ((HSV.out.gw ⟨V.drawn + 1, #[]⟩).gw q) HBV.out.nil (by omega))
      refine wp_region_relP 5 [15, 16, 17, 18, 19] [fun _ v => v = paV be, fun w' v => w'.ownsRow V.heap.size 30 4 v be.l.length (be.l.flatMap stC), fun _ v => v = .pointer (some ⟨bk, 0, none⟩), fun _ v => v = stv x.s,
        fun w' v => ∃ g, v = .slice (some ⟨g, 0, none⟩) 1 1 ∧ w'.heap[g]? = some (.cells (stC x.s).toArray 30 (0, 0))] (by kernel_rfl) (by kernel_rfl) rfl rfl (by simp only [List.drop_succ_cons, List.drop_zero]; rfl) (by decide) rfl (by kernel_rfl) ?_ ?_ ?_
      · refine ⟨fun _ _ _ h => h, fun _ _ q h => own_gw h q, fun _ _ _ h => h, fun _ _ _ h => h, ?_, trivial⟩
        rintro v w' q ⟨g, h1, h5⟩
        exact ⟨g, h1, (gw_heap _ _ _ (Array.getElem?_eq_some_iff.1 h5).1).trans h5⟩
      · refine ⟨?_, ?_, ?_, ?_, ?_, trivial⟩
        · refine relAt_seen [2] rfl rfl rfl fun b q hs => ?_
          simp [allSeen, FofL, slot] at hs
          simp [execOp, relUpon, FofL, go_sem, gw_ex_self, hs, ob2, c2]
        · refine relAt_seen [15] rfl rfl rfl fun b q hs => ?_
          simp [allSeen, FofL, slot] at hs
          simp only [execOp, relUpon, resolve, invoke, Sem.run_bind, List.map_toArray, List.map_cons, List.map_nil, Act.eval, Array.getD_eq_getD_getElem?, hs]
          simp [go_sem]
          refine (HC.out q).mono ?_
          rintro e w' ⟨v, rfl, hown, hbel⟩
          refine ⟨_, rfl, ?_, gw_of_below hbel⟩
          simp only [FofL, Nat.reduceEqDiff, if_true, if_false]
          exact own_low hown (by simp)
        · refine relAt_seen [5] rfl rfl rfl fun b q hs => ?_
          simp [allSeen, FofL, slot] at hs
          simp [execOp, relUpon, FofL, go_sem, gw_ex_self, hs]
        · refine relAt_seen [17] rfl rfl rfl fun b q hs => ?_
          simp [allSeen, FofL, slot] at hs
          have c0 := (gw_cell V.drew q bk 0 obk).trans (hkx 0)
          have c1 := (gw_cell V.drew q bk 1 obk).trans (hkx 1)
          have c2 := (gw_cell V.drew q bk 2 obk).trans (hkx 2)
          have c3 := (gw_cell V.drew q bk 3 obk).trans (hkx 3)
          simp at c0 c1 c2 c3
          simp [execOp, relUpon, FofL, go_sem, gw_ex_self, hs, c0, c1, c2, c3]
        · refine relAt_seen [18] rfl rfl rfl fun b q hs => ?_
          simp [allSeen, FofL, slot] at hs
          simp [execOp, relUpon, go_sem, gw_ex_alloc, hs]
          simp only [FofL, Nat.reduceEqDiff, if_true, if_false]
          exact ⟨_, rfl, heap_alloc_at' _ _ _ (by simp)⟩
      · intro vs q hlen hv
        match vs, hlen with
        | [v15, v16, v17, v18, v19], _ =>
          obtain ⟨h15, h16, h17, h18, ⟨g, h19, hg⟩, _⟩ := hv
          subst h15 h17 h18 h19
          simp only [putL, Act.put]
          have hVq : Below V.heap.size V (gw V.drew q) := ((Below.refl _ V).drew).trans (gw_below V.drew q)
          refine wpList_append_row (f := stC) rfl _ _ 41 rfl V.heap.size 30 i0 z0 4 64 rfl HI.out.1 HI.out.2.1 HI.out.2.2.1 HI.out.2.2.2.1 HI.out.2.2.2.2 (by omega) stC_len stC_one v16 be.l.length (be.l.flatMap stC) rfl h16 (some ⟨g, 0, none⟩) 1 [x.s] (fun h => by cases h) rfl (Row.of_block stC_len hg (by simp)) (by unfold maxLen; simp; omega) (by simp; omega) hVq.size ?_
          intro v' V5 hown hgrow _
          have hB5 := below_grown hVq hgrow hVq.size (fun k hk => (h16.lt k hk).1)
          obtain ⟨pd, pc, rfl, _, _⟩ := own_val hown
          have hl5 : (be.l ++ [x.s]).length = be.l.length + 1 := by simp
          have HPA := Lib.hid (show PAok W0 B V5 ⟨pd, be.l ++ [x.s], pc⟩ from PAok.of_own HCV.out hB5 (by rw [hl5, List.flatMap_append]; simpa using hown) (fun s hs => by
            rcases List.mem_append.1 hs with h | h
            · exact HBV.out.rd s h
            · rw [List.mem_singleton.1 h]; exact (HL.out.kid (List.mem_of_getElem? HX.out)).self.rd))
          have HL5 := Lib.hid (HLV.out.below HJO.out HCV.out hB5 (by omega))
          have HC5 := Lib.hid (HCV.out.below hB5)
          have HK5 := Lib.hid (HKB.out.below HCV.out hB5)
          have hvs5 := hB5.size
          clear hown hgrow h16 hg hVq hB5 hl5 hkx c2 ob2 obk
          go_step
          go_step
          go_step
          have hkx := row_cells HK5.out.1
          have k0 := (hkx 0).trans (show _ = some (.int .i64 x.s.g) from rfl)
          have k1 := (hkx 1).trans (show _ = some (.int .i64 x.s.c) from rfl)
          have k2 := (hkx 2).trans (show _ = some (.slice x.s.ga x.s.gs.length x.s.gc) from rfl)
          have k3 := (hkx 3).trans (show _ = some (.slice x.s.ta x.s.ts.length x.s.tc) from rfl)
          have k4 := (hkx 4).trans (show _ = some (.slice x.ad x.ks.length x.cap) from rfl)
          have y0 := (row_cells HL5.out.b3.1 0).trans (show _ = some (.func (.yield lp) #[] #[]) from rfl)
          have obk : Old bk V5 := HK5.out.lt
          have ob3 : Old b3 V5 := HL5.out.b3.lt
          clear hkx
          by_cases hks : x.ks.length = 0
          · have hz : ((x.ks.length : Int) == 0) = true := by simp [hks]
            obtain ⟨fn, tmps, assign, body, hy, hR⟩ := HY.out 9 xs ⟨pd, be.l ++ [x.s], pc⟩ V5 (by
              have h1 := lvK_at be.l HX.out
              have h2 := congrArg List.length HOUT.out
              have h3 : x.ks = [] := List.length_eq_zero_iff.1 hks
              rw [sh_eq x, h3, lvT] at h1
              simp only [List.map_nil, List.isEmpty_nil, if_true, List.length_singleton] at h1
              simp only [List.length_map] at h2
              simp only [PT.ks]
              omega) HPA.out HL5.out.j
            simp only [paV, List.length_append, List.length_singleton] at hy
            go_step
            go_step
            go_step
            go_step
            go_step
            refine (wpIn_wide (n := 10)).1 ?_
            gi_wp2
            refine hR.mono ?_
            rintro e V6 ⟨rfl, hj6, hk6⟩
            clear hy hR k0 k1 k2 k3 k4 y0 obk ob3
            have HS6 := Lib.hid (HL5.out.round hj6 hk6 (by omega))
            have HP6 := Lib.hid (HPA.out.kp hk6)
            have HK6 := Lib.hid (HK5.out.kp hk6)
            obtain ⟨zs, hzs⟩ : ∃ zs, zs = xs ++ [(⟨pd, be.l ++ [x.s], pc⟩ : PA)] := ⟨_, rfl⟩
            rw [← hzs] at HS6
            have HZ := Lib.hid (show zs.map PA.l ++ lvK (be.l ++ [x.s]) (x.ks.map sh) = xs.map PA.l ++ lvT be.l (sh x) by
              have : x.ks = [] := List.length_eq_zero_iff.1 hks
              rw [hzs, sh_eq, this, lvT]; simp [lvK])
            clear hj6 hk6 hzs hks hz
            gi_wp2
            have hkx := row_cells HK6.out.1
            have k0 := (hkx 0).trans (show _ = some (.int .i64 x.s.g) from rfl)
            have k1 := (hkx 1).trans (show _ = some (.int .i64 x.s.c) from rfl)
            have k2 := (hkx 2).trans (show _ = some (.slice x.s.ga x.s.gs.length x.s.gc) from rfl)
            have k3 := (hkx 3).trans (show _ = some (.slice x.s.ta x.s.ts.length x.s.tc) from rfl)
            have k4 := (hkx 4).trans (show _ = some (.slice x.ad x.ks.length x.cap) from rfl)
            clear hkx
            go_wp2_with (go_at_call 35; refine Stop.here ?_)
            refine Stop.on ?_
            clear k0 k1 k2 k3 k4
            have hcall := leaves_any V6 x ⟨pd, be.l ++ [x.s], pc⟩
            simp only [trV, paV, List.length_append, List.length_singleton] at hcall
            refine hcall.mono ?_
            rintro e W7 ⟨rfl, rfl⟩
            clear hcall
            have hl5 : (be.l ++ [x.s]).length = be.l.length + 1 := by simp
            have HCQ := Lib.hid (HJC.out _ _ HS6.out.j)
            have hs6 : X.heap.size ≤ V6.heap.size := HS6.out.kp.size
            have hT0 := HXT.out.size
            obtain ⟨V7, hV7⟩ : ∃ V7, V7 = (V6.alloc (.cells (trC x).toArray 33)).alloc (.cells #[.slice pd (be.l.length + 1) pc] 41) := ⟨_, rfl⟩
            rw [← hV7]
            have hb7 : Below V6.heap.size V6 V7 := by rw [hV7]; exact ((Below.refl _ _).alloc (Nat.le_refl _) _).alloc (by simp) _
            have hs7 : V7.heap.size = V6.heap.size + 1 + 1 := by rw [hV7]; simp
            have HMA := Lib.hid (show Mine B V7 V6.heap.size (trC x).toArray 33 from ⟨by rw [hV7, heap_alloc_past' _ _ _ (by simp [Old])]; exact heap_alloc_at' _ _ _ rfl, cons_new HCQ.out hb7 (Nat.le_refl _)⟩)
            have HMB := Lib.hid (show Mine B V7 (V6.heap.size + 1) #[paV ⟨pd, be.l ++ [x.s], pc⟩] 41 from ⟨by rw [hV7]; simp only [paV, hl5]; exact heap_alloc_at' _ _ _ (by simp), cons_new HCQ.out hb7 (by omega)⟩)
            have HS7 := Lib.hid (HS6.out.below HJO.out HCQ.out hb7 (by omega))
            have HP7 := Lib.hid (HP6.out.below HCQ.out hb7)
            have HC7 := Lib.hid (HCQ.out.below hb7)
            have HT7 := Lib.hid (HXT.out.trans HS7.out.kp.below)
            clear hV7 hb7 HS6 HP6 HCQ
            have hDs : ∀ D ∈ Ds, D < V7.heap.size := fun D hD => (Array.getElem?_eq_some_iff.1 (HS7.out.marks D hD).2).1
            have HDS := Lib.hid hDs
            clear hDs
            go_wp2
            refine (wpIn_wide (n := 10)).1 (wpIn_rangeFunc_u (F := Fence.wide) (n := 10) (α := PA) (fun pre x' W => pre.length < (lvK (be.l ++ [x.s]) (x.ks.map sh)).length ∧ PAok W0 B W x') rfl (by omega) (gf := 63) (lb := #[.pointer (some ⟨V6.heap.size, 0, none⟩), .pointer (some ⟨V6.heap.size + 1, 0, none⟩)]) rfl trivial (enters_of Try.func63 (by kernel_rfl) rfl)
              (fun pre W => LS X B Wt.heap.size n b3 lp J Ds (zs ++ pre) W) (encs := fun x' => #[paV x']) (Kp := fun _ => KpL B Wt.heap.size (V7.heap.size + 2)) (S := fun ys => ys.map PA.l = lvK (be.l ++ [x.s]) (x.ks.map sh)) ?seq ?okb (fun h k => h.trans k) ?kb (fun _ => rfl) ?hI (by simpa using HS7.out)
              (fun a x' a' _ => a' = { tmps := (a.tmps.setIfInBounds 34 (paV x')).setIfInBounds 7 (paV x'), defers := [] }) ?hAx ?assign ?body ?done)
            case seq =>
              intro lq J' W hW hWs hJ' hJI hY' h0'
              have hxk := List.mem_of_getElem? HX.out
              have hless := kid_less (t := .mk s (some ⟨b, off, none⟩) cap0 ks) hxk
              exact IH.out x ⟨pd, be.l ++ [x.s], pc⟩ lq (V7.heap.size + 2) V6.heap.size (V6.heap.size + 1) J' W (by have := HM.out; omega) (by omega) (by have := HBL.out; rw [hl5]; omega) (HL.out.kid hxk) (HT7.out.trans (hW.mono (by omega))) HW0.out hJ'
                (fun pre W' h => HJC.out _ _ (hJI _ _ h).j) hWs (fun m' pre x' W1 hpl hok hj => YieldAt.any m' (hY' pre x' W1 ⟨hpl, hok⟩ hj)) (HMA.out.below HC7.out hW) (HMB.out.below HC7.out hW) (HP7.out.below HC7.out hW) h0'
            case okb =>
              intro pre x' W l o o' hl ho hco h
              exact ⟨h.1, h.2.put o' (by have := HC7.out.lt; omega) ho hco⟩
            case kb =>
              intro x' W o o' ho hco
              exact (KpL.refl W).put o' (.inr (by omega)) (by omega) (by have := HC7.out.lt; omega) ho hco
            case hI => exact fun pre A V' row hs hg hr => hs.keep HJO.out (HJC.out _ _ hs.j) hg hr (by omega) (by omega) (by omega) HDS.out
            case hAx => exact fun _ _ _ _ _ _ h _ _ => h
            case assign =>
              intro lq pre x' W K' hok hI hK'
              gi_wp2
              exact hK' _ _ (KeepsFrom.refl _ _) (KpL.refl _) hI hok rfl
            case body =>
              rintro lq pre x' a' W hl ⟨r', hr'⟩ hok hI rfl
              obtain ⟨xad, xl, xc⟩ := x'
              have HI2 := Lib.hid hI
              have y0 := (row_cells hI.b3.1 0).trans (show _ = some (.func (.yield lp) #[] #[]) from rfl)
              obtain ⟨fn, tmps, assign, body, hy, hR⟩ := HY.out 7 (zs ++ pre) ⟨xad, xl, xc⟩ W (by have h1 := lvK_at be.l HX.out; have h2 := congrArg List.length HOUT.out; have h3 := congrArg List.length HZ.out; have h4 := hok.1; simp only [List.length_map, List.length_append] at h2 h3 h4; simp only [PT.ks, List.length_append]; omega) hok.2 hI.j
              simp only [paV] at hy
              clear hok hI hr'
              gi_wp2
              refine (RoundIn.inRound hR).mono ?_
              rintro e W' ⟨rfl, hj', hk'⟩
              have HJ' := Lib.hid hj'
              have HK' := Lib.hid hk'
              clear hj' hk' y0 hy hR
              gi_wp2
              exact ⟨⟨HK'.out.size, fun k o hk ho hc => HK'.out.others k o (by omega) ho hc⟩, HK'.out.mono (by omega), by have := HI2.out.round HJ'.out HK'.out (by omega); rwa [List.append_assoc] at this⟩
            case done =>
              rintro D ys W hD hS hI hKD
              have HI2 := Lib.hid hI
              have HSS := Lib.hid hS
              have HKD := Lib.hid hKD
              clear hI hS hKD
              go_wp2
              refine hK _ _ ⟨k + 1, D :: Ds, zs ++ ys, by omega, ⟨_, _, _, _, _, _, _, _, _, _, _, _, _, _, _, _, _, _, _, _, _, _, _, _, _, _, _, _, _, _, _, rfl⟩, ?_, ⟨HI2.out.j, HI2.out.kp, HI2.out.b3, ?_, ?_⟩⟩ ?_
              · rw [List.map_append, HSS.out, HZ.out, HOUT.out, List.take_succ_eq_append_getElem hlt, List.map_append, lvK_append, (List.getElem?_eq_some_iff.1 HX.out).2]; simp [lvK]
              · intro E hE
                rcases List.mem_cons.1 hE with rfl | hE
                · exact ⟨by omega, HKD.out⟩
                · exact HI2.out.marks E hE
              · exact List.nodup_cons.2 ⟨fun h => by have := HDS.out D h; omega, HI2.out.nd⟩
              · simp [intOf]; omega
          · have hz : ((x.ks.length : Int) == 0) = false := by simp; exact fun h => hks (by rw [h]; rfl)
            obtain ⟨zs, hzs⟩ : ∃ zs, zs = xs := ⟨_, rfl⟩
            have HS6 := HL5
            have HP6 := HPA
            have HK6 := HK5
            rw [← hzs] at HS6
            have HZ := Lib.hid (show zs.map PA.l ++ lvK (be.l ++ [x.s]) (x.ks.map sh) = xs.map PA.l ++ lvT be.l (sh x) by
              rw [hzs, sh_eq, lvT, if_neg (by simp; exact fun h => hks (by rw [h]; rfl))])
            clear hzs hks
            go_wp2_with (go_at_call 35; refine Stop.here ?_)
            refine Stop.on ?_
            clear hz k0 k1 k2 k3 k4 y0 obk ob3
            have hcall := leaves_any V5 x ⟨pd, be.l ++ [x.s], pc⟩
            simp only [trV, paV, List.length_append, List.length_singleton] at hcall
            refine hcall.mono ?_
            rintro e W7 ⟨rfl, rfl⟩
            clear hcall
            have hl5 : (be.l ++ [x.s]).length = be.l.length + 1 := by simp
            have HCQ := Lib.hid (HJC.out _ _ HS6.out.j)
            have hs6 : X.heap.size ≤ V5.heap.size := HS6.out.kp.size
            have hT0 := HXT.out.size
            obtain ⟨V7, hV7⟩ : ∃ V7, V7 = (V5.alloc (.cells (trC x).toArray 33)).alloc (.cells #[.slice pd (be.l.length + 1) pc] 41) := ⟨_, rfl⟩
            rw [← hV7]
            have hb7 : Below V5.heap.size V5 V7 := by rw [hV7]; exact ((Below.refl _ _).alloc (Nat.le_refl _) _).alloc (by simp) _
            have hs7 : V7.heap.size = V5.heap.size + 1 + 1 := by rw [hV7]; simp
            have HMA := Lib.hid (show Mine B V7 V5.heap.size (trC x).toArray 33 from ⟨by rw [hV7, heap_alloc_past' _ _ _ (by simp [Old])]; exact heap_alloc_at' _ _ _ rfl, cons_new HCQ.out hb7 (Nat.le_refl _)⟩)
            have HMB := Lib.hid (show Mine B V7 (V5.heap.size + 1) #[paV ⟨pd, be.l ++ [x.s], pc⟩] 41 from ⟨by rw [hV7]; simp only [paV, hl5]; exact heap_alloc_at' _ _ _ (by simp), cons_new HCQ.out hb7 (by omega)⟩)
            have HS7 := Lib.hid (HS6.out.below HJO.out HCQ.out hb7 (by omega))
            have HP7 := Lib.hid (HP6.out.below HCQ.out hb7)
            have HC7 := Lib.hid (HCQ.out.below hb7)
            have HT7 := Lib.hid (HXT.out.trans HS7.out.kp.below)
            clear hV7 hb7 HS6 HP6 HCQ
            have hDs : ∀ D ∈ Ds, D < V7.heap.size := fun D hD => (Array.getElem?_eq_some_iff.1 (HS7.out.marks D hD).2).1
            have HDS := Lib.hid hDs
            clear hDs
            go_wp2
            refine (wpIn_wide (n := 10)).1 (wpIn_rangeFunc_u (F := Fence.wide) (n := 10) (α := PA) (fun pre x' W => pre.length < (lvK (be.l ++ [x.s]) (x.ks.map sh)).length ∧ PAok W0 B W x') rfl (by omega) (gf := 63) (lb := #[.pointer (some ⟨V5.heap.size, 0, none⟩), .pointer (some ⟨V5.heap.size + 1, 0, none⟩)]) rfl trivial (enters_of Try.func63 (by kernel_rfl) rfl)
              (fun pre W => LS X B Wt.heap.size n b3 lp J Ds (zs ++ pre) W) (encs := fun x' => #[paV x']) (Kp := fun _ => KpL B Wt.heap.size (V7.heap.size + 2)) (S := fun ys => ys.map PA.l = lvK (be.l ++ [x.s]) (x.ks.map sh)) ?seq ?okb (fun h k => h.trans k) ?kb (fun _ => rfl) ?hI (by simpa using HS7.out)
              (fun a x' a' _ => a' = { tmps := (a.tmps.setIfInBounds 34 (paV x')).setIfInBounds 7 (paV x'), defers := [] }) ?hAx ?assign ?body ?done)
            case seq =>
              intro lq J' W hW hWs hJ' hJI hY' h0'
              have hxk := List.mem_of_getElem? HX.out
              have hless := kid_less (t := .mk s (some ⟨b, off, none⟩) cap0 ks) hxk
              exact IH.out x ⟨pd, be.l ++ [x.s], pc⟩ lq (V7.heap.size + 2) V5.heap.size (V5.heap.size + 1) J' W (by have := HM.out; omega) (by omega) (by have := HBL.out; rw [hl5]; omega) (HL.out.kid hxk) (HT7.out.trans (hW.mono (by omega))) HW0.out hJ'
                (fun pre W' h => HJC.out _ _ (hJI _ _ h).j) hWs (fun m' pre x' W1 hpl hok hj => YieldAt.any m' (hY' pre x' W1 ⟨hpl, hok⟩ hj)) (HMA.out.below HC7.out hW) (HMB.out.below HC7.out hW) (HP7.out.below HC7.out hW) h0'
            case okb =>
              intro pre x' W l o o' hl ho hco h
              exact ⟨h.1, h.2.put o' (by have := HC7.out.lt; omega) ho hco⟩
            case kb =>
              intro x' W o o' ho hco
              exact (KpL.refl W).put o' (.inr (by omega)) (by omega) (by have := HC7.out.lt; omega) ho hco
            case hI => exact fun pre A V' row hs hg hr => hs.keep HJO.out (HJC.out _ _ hs.j) hg hr (by omega) (by omega) (by omega) HDS.out
            case hAx => exact fun _ _ _ _ _ _ h _ _ => h
            case assign =>
              intro lq pre x' W K' hok hI hK'
              gi_wp2
              exact hK' _ _ (KeepsFrom.refl _ _) (KpL.refl _) hI hok rfl
            case body =>
              rintro lq pre x' a' W hl ⟨r', hr'⟩ hok hI rfl
              obtain ⟨xad, xl, xc⟩ := x'
              have HI2 := Lib.hid hI
              have y0 := (row_cells hI.b3.1 0).trans (show _ = some (.func (.yield lp) #[] #[]) from rfl)
              obtain ⟨fn, tmps, assign, body, hy, hR⟩ := HY.out 7 (zs ++ pre) ⟨xad, xl, xc⟩ W (by have h1 := lvK_at be.l HX.out; have h2 := congrArg List.length HOUT.out; have h3 := congrArg List.length HZ.out; have h4 := hok.1; simp only [List.length_map, List.length_append] at h2 h3 h4; simp only [PT.ks, List.length_append]; omega) hok.2 hI.j
              simp only [paV] at hy
              clear hok hI hr'
              gi_wp2
              refine (RoundIn.inRound hR).mono ?_
              rintro e W' ⟨rfl, hj', hk'⟩
              have HJ' := Lib.hid hj'
              have HK' := Lib.hid hk'
              clear hj' hk' y0 hy hR
              gi_wp2
              exact ⟨⟨HK'.out.size, fun k o hk ho hc => HK'.out.others k o (by omega) ho hc⟩, HK'.out.mono (by omega), by have := HI2.out.round HJ'.out HK'.out (by omega); rwa [List.append_assoc] at this⟩
            case done =>
              rintro D ys W hD hS hI hKD
              have HI2 := Lib.hid hI
              have HSS := Lib.hid hS
              have HKD := Lib.hid hKD
              clear hI hS hKD
              go_wp2
              refine hK _ _ ⟨k + 1, D :: Ds, zs ++ ys, by omega, ⟨_, _, _, _, _, _, _, _, _, _, _, _, _, _, _, _, _, _, _, _, _, _, _, _, _, _, _, _, _, _, _, rfl⟩, ?_, ⟨HI2.out.j, HI2.out.kp, HI2.out.b3, ?_, ?_⟩⟩ ?_
              · rw [List.map_append, HSS.out, HZ.out, HOUT.out, List.take_succ_eq_append_getElem hlt, List.map_append, lvK_append, (List.getElem?_eq_some_iff.1 HX.out).2]; simp [lvK]
              · intro E hE
                rcases List.mem_cons.1 hE with rfl | hE
                · exact ⟨by omega, HKD.out⟩
                · exact HI2.out.marks E hE
              · exact List.nodup_cons.2 ⟨fun h => by have := HDS.out D h; omega, HI2.out.nd⟩
              · simp [intOf]; omega
    · have hout : xs.map PA.l = lvK be.l (ks.map sh) := by rw [HOUT.out, List.take_of_length_le (by omega)]
      have HO := Lib.hid hout
      clear hout
      go_wp2
      (try simp only [Exit.inBlock, Exit.then])
      show LeavesInM Fence.wide 9 Try.prog Try.f63 _ _ (Ds.map markOf) .returning wr
      refine leaves_marks (v := .tuple #[]) (fun w => results_none rfl _ _ w) (J xs) (fun W hz => ⟨⟨_, rfl⟩, xs, HO.out, hz⟩) Ds (fun W D hD hz hd => HJO.out.putObj _ hz (by have := (HLS.out.marks D hD).1; omega) hd rfl) Ds wr (fun _ h => h) (fun D hD => (HLS.out.marks D hD).2) HLS.out.nd HLS.out.j

end Go.Proofs.Ytmgiojkdcpolfaa
