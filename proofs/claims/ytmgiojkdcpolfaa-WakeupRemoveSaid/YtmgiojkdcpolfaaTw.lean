/- WakeupInsertTwice: the walk. -/
import Derived.Test.YtmgiojkdcpolfaaGr
import Derived.Test.YtmgiojkdcpolfaaOn
import Derived.Test.YtmgiojkdcpolfaaRq
namespace Go.Proofs.Ytmgiojkdcpolfaa
open Go.RowKit Go.Sort PT

theorem few_spec {ps : List PA} (h : few ps = true) : ps.length ≤ 8 ∧ ∀ q ∈ ps, q.l.length ≤ 8 ∧ ∀ s ∈ q.l, s.gs.length ≤ 8 ∧ s.ts.length ≤ 8 := by
  simp only [few, Bool.and_eq_true, decide_eq_true_eq, List.all_eq_true, fewQ, fewS] at h
  exact ⟨h.1, fun q hq => ⟨(h.2 q hq).1, fun s hs => (h.2 q hq).2 s hs⟩⟩
/-- A sequence that is short. -/
structure SeqF (W : World) (q : PA) : Prop where
  row : Row 4 stC W q.ad q.l
  cap : q.l.length ≤ q.cap
  nil : q.ad = none → q.cap = 0
  rd : ∀ s ∈ q.l, Rd W s
  len : q.l.length ≤ 8
theorem seqF_of {W : World} {ps : List PA} (h : few ps = true) (hs : ∀ q ∈ ps, SeqU W q) : ∀ q ∈ ps, SeqF W q := fun q hq =>
  ⟨(hs q hq).row, (hs q hq).cap, (hs q hq).nil, fun s hx => ⟨((hs q hq).rd s hx).1, ((hs q hq).rd s hx).2, (((few_spec h).2 q hq).2 s hx).1, (((few_spec h).2 q hq).2 s hx).2⟩, ((few_spec h).2 q hq).1⟩
theorem TW.new {W0 W : World} (hb : Below W0.heap.size W0 W) : TW W0 (W.alloc (.cells #[.int .i64 0, .int .i64 0, .slice none 0 0, .slice none 0 0, .slice none 0 0] 33)) W.heap.size t00 :=
  ⟨hb.alloc hb.size _, hb.size, heap_alloc_at' _ _ _ rfl, lies_t00 _ _, fun n hn a e => by
    simp [nodes, nodesL] at hn
    subst hn
    cases e⟩

theorem ks_sh (t : PT) : (sh t).ks = t.ks.map sh := by rw [sh_eq]; rfl
theorem cnt_ks (t : T) : cntL t.ks < cnt t := by
  cases t with
  | nd s k => simp [cnt, T.ks]
theorem pathsV_any (W0 w : World) (t : PT) (hL : Lies W0 w t) (hW : Below W0.heap.size W0 w) (hm : cnt (sh t) ≤ 900) :
    Calls Try.prog 13 #[trV t] w fun e w' => ∃ (ad : Option Addr) (ps : List PA) (cap : Nat), e = .returned (.slice ad ps.length cap) ∧ ps.map PA.l = lvK [] (sh t).ks ∧ Pths w' ad ps ∧ ∃ q : Regrown, w' = gw w q := by
  have h1 := lvK_len [] (sh t).ks
  have h2 := cnt_ks (sh t)
  refine (pathsP_any W0 w t hL hW (by rw [nodes_cnt]; exact hm) (by rw [← ks_sh]; omega)).mono ?_
  intro e w' h
  obtain ⟨v, rfl, ⟨ad, cap, ps, rfl, h3, h4⟩, q, h5⟩ := h.pv hW (fun p hp => by rw [← ks_sh] at hp; have := (lvK_path [] (sh t).ks p hp).1; simp at this; omega)
  exact ⟨ad, ps, cap, rfl, by rw [h3, ks_sh], h4, q, h5⟩

/-- What Insert yields, what a new box is, and the two together. -/
def UF (W0 : World) (T : T) (n : Nat) (w' : World) (v : Value) : Prop := ∃ u, v = trV u ∧ sh u = T ∧ Lies W0 w' u ∧ Fresh n u
abbrev zTree : Obj := .cells #[.int .i64 0, .int .i64 0, .slice none 0 0, .slice none 0 0, .slice none 0 0] 33 (0, 0)
def GF (n : Nat) (w' : World) (v : Value) : Prop := ∃ g, v = .pointer (some ⟨g, 0, none⟩) ∧ w'.heap[g]? = some zTree ∧ n ≤ g
def UG (W0 : World) (T : T) (n : Nat) (w' : World) (v v5 : Value) : Prop := ∃ u g, v = trV u ∧ v5 = .pointer (some ⟨g, 0, none⟩) ∧ sh u = T ∧ Lies W0 w' u ∧ Fresh n u ∧ Avoid (some g) u ∧ w'.heap[g]? = some zTree ∧ n ≤ g
theorem UF.gw {W0 : World} {T : T} {n : Nat} {w' : World} {v : Value} (h : UF W0 T n w' v) (r : Regrown) : UF W0 T n (gw w' r) v := by
  obtain ⟨u, h1, h2, h3, h4⟩ := h
  exact ⟨u, h1, h2, h3.gw r, h4⟩
theorem GF.gw {n : Nat} {w' : World} {v : Value} (h : GF n w' v) (r : Regrown) : GF n (gw w' r) v := by
  obtain ⟨g, h1, h2, h3⟩ := h
  exact ⟨g, h1, (gw_heap _ _ _ (Array.getElem?_eq_some_iff.1 h2).1).trans h2, h3⟩
theorem UG.gw {W0 : World} {T : T} {n : Nat} {w' : World} {v v5 : Value} (h : UG W0 T n w' v v5) (r : Regrown) : UG W0 T n (gw w' r) v v5 := by
  obtain ⟨u, g, h1, h2, h3, h4, h5, h6, h7, h8⟩ := h
  exact ⟨u, g, h1, h2, h3, h4.gw r, h5, h6, (gw_heap _ _ _ (Array.getElem?_eq_some_iff.1 h7).1).trans h7, h8⟩
theorem UG.of_ins {W0 : World} {T : T} {n : Nat} {W : World} {u : PT} {p : Regrown} {v5 : Value} (hn : n ≤ W.heap.size) (hsh : sh u = T) (hl : Lies W0 (Go.Proofs.Ytmgiojkdcpolfaa.gw W p) u) (hf : Fresh W.heap.size u) (h5 : GF n W v5) : UG W0 T n (Go.Proofs.Ytmgiojkdcpolfaa.gw W p) (trV u) v5 := by
  obtain ⟨g, h1, h2, h3⟩ := h5
  have hg := (Array.getElem?_eq_some_iff.1 h2).1
  exact ⟨u, g, rfl, h1, hsh, hl, hf.mono hn, Avoid.of_fresh hf hg, (gw_heap _ _ _ hg).trans h2, h3⟩
theorem UG.of_box {W0 : World} {T : T} {n : Nat} {W : World} {v : Value} (hn : n ≤ W.heap.size) (h : UF W0 T n W v) : UG W0 T n (W.alloc (.cells #[.int .i64 0, .int .i64 0, .slice none 0 0, .slice none 0 0, .slice none 0 0] 33)) v (.pointer (some ⟨W.heap.size, 0, none⟩)) := by
  obtain ⟨u, h1, h2, h3, h4⟩ := h
  exact ⟨u, _, h1, rfl, h2, h3.below ((Below.refl _ _).alloc (Nat.le_refl _) _), h4, Avoid.of_lies h3 (Nat.le_refl _), heap_alloc_at' _ _ _ rfl, hn⟩
theorem GF.new {n : Nat} {W : World} (hn : n ≤ W.heap.size) : GF n (W.alloc (.cells #[.int .i64 0, .int .i64 0, .slice none 0 0, .slice none 0 0, .slice none 0 0] 33)) (.pointer (some ⟨W.heap.size, 0, none⟩)) := ⟨_, rfl, heap_alloc_at' _ _ _ rfl, hn⟩

set_option maxRecDepth 100000 in
set_option maxHeartbeats 4000000 in
theorem insertTwice_any (ad : Option Addr) (ps : List PA) (cap : Nat) (w : World) (hr : Row 1 paC w ad ps) (hs : ∀ q ∈ ps, SeqU w q) :
    Calls Try.prog 4 #[.slice ad ps.length cap] w (Gives (.bool true) w) := by
  have HR := Lib.hid hr
  have HS := Lib.hid hs
  clear hr hs
  have HFW := Lib.hid (fun q => few_any ad ps cap (gw w q) (HR.out.gw q) (fun x hx => ((HS.out x hx).row.gw q)))
  obtain ⟨d, hd⟩ : ∃ d, few ps = d := ⟨_, rfl⟩
  rw [hd] at HFW
  cases d
  · go_enter Try.func4, Try.ntmps4
    go_wp2_with (first | (go_at_call 9; (with_reducible refine (awake_any _).mono ?_); rintro e w1 ⟨rfl, p1, rfl⟩) | (go_at_call 10; (with_reducible refine (HFW.out _).mono ?_); rintro e w1 ⟨rfl, p2, rfl⟩))
    have he := Lib.hid (show true = true from rfl)
    have HB := Lib.hid (below_gw (gw_below w p1) (by simp) p2)
    go_ret; exact Gives.mk (by rw [he.out]; rfl) (by have hb' := HB.out; have hs' := HB.out.size; repeat (first | exact hb' | refine below_gw ?_ (by first | (simp; done) | (simp; omega) | omega) _ | refine Below.alloc ?_ (by first | (simp; done) | (simp; omega) | omega) _ | refine Below.setCell ?_ (by first | (simp; done) | (simp; omega) | omega) | refine Below.drew ?_))
  have HSF := Lib.hid (seqF_of hd HS.out)
  have hps := (few_spec hd).1
  clear HS hd
  go_enter Try.func4, Try.ntmps4
  go_wp2_with (first | (go_at_call 9; (with_reducible refine (awake_any _).mono ?_); rintro e w1 ⟨rfl, p1, rfl⟩) | (go_at_call 10; (with_reducible refine (HFW.out _).mono ?_); rintro e w1 ⟨rfl, p2, rfl⟩))
  have HT0 := Lib.hid (TW.new (W0 := w) (W := gw (gw w p1) p2) (below_gw (gw_below w p1) (by simp) p2))
  clear HFW
  have hB0 := HT0.out.lt
  have hlow := HT0.out.low
  simp only [gw_size] at HT0 hlow
  generalize w.heap.size + p1.os.size + p2.os.size = B at *
  have HB0 := Lib.hid hlow
  clear hB0 hlow
  go_loopw [4] (fun i wr => ∃ (k : Nat) (t : PT), k ≤ ps.length ∧ i = .int .i64 k ∧ Hid (cnt (sh t) ≤ 1 + 8 * k) ∧ Hid (TW w wr B t)) (fun i _ => ps.length - (intOf i).toNat)
  case atStart => exact ⟨0, t00, by omega, rfl, Lib.hid (by simp [sh, shL, cnt, cntL]), HT0⟩
  case round =>
    clear HT0
    obtain ⟨k, t, hk, rfl, hcn, htw⟩ := hrel
    have HCN := Lib.hid hcn.out
    have HTW := Lib.hid htw.out
    clear hcn htw
    by_cases hlt : k < ps.length
    · have kb : (k : Int) < ps.length := by omega
      obtain ⟨q, hq⟩ := get_some hlt
      have HQ := Lib.hid hq
      have HF := Lib.hid (HSF.out q (List.mem_of_getElem? hq))
      clear hq
      go_wp2
      have hqb : ∀ q : Regrown, Below wr.heap.size wr (gw wr.drew q) := fun q => ((Below.refl _ wr).drew).trans (gw_below wr.drew q)
      have HQB := Lib.hid hqb
      have HRQ := Lib.hid (fun r => ((HR.out.below HTW.out.below).below (hqb r)).get HQ.out)
      have HTQ := Lib.hid (fun r => (HTW.out.mono (hqb r)).tb)
      have HWQ := Lib.hid (fun r => (HTW.out.mono (hqb r)).below)
      have HC := Lib.hid (fun r => insertP_any w t (gw wr.drew r) q.l q.ad q.cap (by rw [nodes_cnt]; have := HCN.out; omega) (HTQ.out r).lies (HWQ.out r) (HF.out.row.below (HWQ.out r)) HF.out.rd HF.out.cap HF.out.nil (by have := HF.out.len; omega))
      clear hqb
      obtain ⟨b, off, rfl, _, _⟩ := (HR.out.below HTW.out.below).get HQ.out
      have hBw := HTW.out.lt
      refine wp_region_relP2 7 [21, 22, 23, 24, 25, 26, 5] [fun _ v => v = trV t, fun _ v => v = .slice (some ⟨b, off, none⟩) ps.length cap, fun _ v => v = .int .i64 k, fun _ v => v = .pointer (some ⟨b, off + k, none⟩), fun _ v => v = paV q, fun w' v => UF w (insT (sh t) q.l true) wr.heap.size w' v, fun w' v => GF wr.heap.size w' v] 26 5 (UG w (insT (sh t) q.l true) wr.heap.size)
        (by kernel_rfl) (by kernel_rfl) rfl rfl (by simp only [List.drop_succ_cons, List.drop_zero]; rfl) (by decide) rfl (by kernel_rfl) (by decide) (by decide) ?_ ?_ ?_ ?_
      · exact ⟨fun _ _ _ h => h, fun _ _ _ h => h, fun _ _ _ h => h, fun _ _ _ h => h, fun _ _ _ h => h, fun _ _ q h => h.gw q, fun _ _ q h => h.gw q, trivial⟩
      · exact fun _ _ _ q h => h.gw q
      · refine ⟨?_, ?_, ?_, ?_, ?_, ?_, ?_, trivial⟩
        · refine relAt2_other rfl (by decide) (by decide) (by decide) (relAt_seen [3] rfl rfl rfl fun a r hs => ?_)
          simp [allSeen, FofL, slot] at hs
          obtain ⟨u0, u1, u2, u3, u4, _⟩ := (HTQ.out r).cells
          simp [execOp, relUpon, FofL, go_sem, gw_ex_self, hs, u0, u1, u2, u3, u4]
        · refine relAt2_other rfl (by decide) (by decide) (by decide) (relAt_seen [0] rfl rfl rfl fun a r hs => ?_)
          simp [allSeen, FofL, slot] at hs
          simp [execOp, relUpon, FofL, go_sem, gw_ex_self, hs]
        · refine relAt2_other rfl (by decide) (by decide) (by decide) (relAt_seen [4] rfl rfl rfl fun a r hs => ?_)
          simp [allSeen, FofL, slot] at hs
          simp [execOp, relUpon, FofL, go_sem, gw_ex_self, hs]
        · refine relAt2_other rfl (by decide) (by decide) (by decide) (relAt_seen [22, 23] rfl rfl rfl fun a r hs => ?_)
          simp [allSeen, FofL, slot] at hs
          simp [execOp, relUpon, FofL, go_sem, gw_ex_self, hs, kb]
        · refine relAt2_other rfl (by decide) (by decide) (by decide) (relAt_seen [24] rfl rfl rfl fun a r hs => ?_)
          simp [allSeen, FofL, slot] at hs
          obtain ⟨b', off', e, ho, hc⟩ := HRQ.out r
          cases e
          have c0 := hc 0 (by omega)
          simp at c0
          simp [execOp, relUpon, FofL, go_sem, gw_ex_self, hs, c0]
        · refine relAt2_seen [21, 25] (by decide) rfl rfl rfl fun a r hs => ?_
          simp [allSeen, FofL, slot] at hs
          simp only [execOp, relUpon, resolve, invoke, Sem.run_bind, List.map_toArray, List.map_cons, List.map_nil, Act.eval, Array.getD_eq_getD_getElem?, hs.1, hs.2]
          simp [go_sem]
          refine (HC.out r).mono ?_
          rintro e w' ⟨u, p', rfl, rfl, hsh, hl, hf⟩
          refine ⟨_, rfl, ⟨?_, fun v5 h5 => ?_⟩, p', rfl⟩
          · simp only [FofL, Nat.reduceEqDiff, if_true, if_false]
            exact ⟨u, rfl, hsh, hl, hf.mono (by simp)⟩
          · simp only [FofL, Nat.reduceEqDiff, if_true, if_false] at h5
            exact UG.of_ins (by simp) hsh hl hf h5
        · refine relAt2_seen [] (by decide) rfl rfl rfl fun a r hs => ?_
          simp [execOp, relUpon, go_sem, gw_ex_alloc]
          refine ⟨?_, fun vx hx => ?_⟩
          · simp only [FofL, Nat.reduceEqDiff, if_true, if_false]
            simpa using GF.new (n := wr.heap.size) (W := gw wr.drew r) (by simp)
          · simp only [FofL, Nat.reduceEqDiff, if_true, if_false] at hx
            simpa using UG.of_box (n := wr.heap.size) (by simp) hx
      · intro vs' r hlen hv hR
        match vs', hlen with
        | [v21, v22, v23, v24, v25, v26, v5], hl0 =>
          clear hl0 hlen
          obtain ⟨h21, h22, h23, h24, h25, _, _, _⟩ := hv
          change UG w (insT (sh t) q.l true) wr.heap.size (gw wr.drew r) v26 v5 at hR
          obtain ⟨u, g, h26, h5, hsh, hl, hf, hav, hrow, hgl⟩ := hR
          subst h21 h22 h23 h24 h25 h26 h5
          simp only [putL, Act.put]
          have hWb := HWQ.out r
          have hTr := HTW.out.mono (HQB.out r)
          generalize gw wr.drew r = Z at *
          have HTU := Lib.hid (TW.put hWb (Nat.le_trans HTW.out.below.size hgl) hrow hl hav)
          have HTT := Lib.hid (fun (V : World) (hg : Z.grownBy V (some g)) => hTr.other hg (by omega) (Nat.le_trans HTW.out.below.size hgl) (Avoid.of_lies HTW.out.lies hgl))
          have hrc := row_cells hrow
          have r0 := (hrc 0).trans (show _ = some (.int .i64 0) from rfl)
          have r1 := (hrc 1).trans (show _ = some (.int .i64 0) from rfl)
          have r2 := (hrc 2).trans (show _ = some (.slice none 0 0) from rfl)
          have r3 := (hrc 3).trans (show _ = some (.slice none 0 0) from rfl)
          have r4 := (hrc 4).trans (show _ = some (.slice none 0 0) from rfl)
          have hbf : ∀ i, World.frozen? Z ⟨g, i, none⟩ = false := fun i => by simp [World.frozen?, hrow]
          have og : Old g Z := Old.of_cell r0
          have HSH := Lib.hid hsh
          have hBg : B ≠ g := by omega
          clear hrc hrow hl hav hsh hWb hTr
          have hkeep := grown_five Z g (.int .i64 u.s.g) (.int .i64 u.s.c) (.slice u.s.ga u.s.gs.length u.s.gc) (.slice u.s.ta u.s.ts.length u.s.tc) (.slice u.ad u.ks.length u.cap)
          have HT2 := Lib.hid (HTT.out _ hkeep)
          clear HTT hkeep
          go_step
          go_step
          go_step
          obtain ⟨V, hV⟩ : ∃ V, V = ((((Z.setCell ⟨g, 0, none⟩ (.int .i64 u.s.g)).setCell ⟨g, 1, none⟩ (.int .i64 u.s.c)).setCell ⟨g, 2, none⟩ (.slice u.s.ga u.s.gs.length u.s.gc)).setCell ⟨g, 3, none⟩ (.slice u.s.ta u.s.ts.length u.s.tc)).setCell ⟨g, 4, none⟩ (.slice u.ad u.ks.length u.cap) := ⟨_, rfl⟩
          rw [← hV] at HT2 HTU ⊢
          have HAV := Lib.hid (show Avoid (some B) u from Avoid.of_fresh hf hBw)
          clear hV r0 r1 r2 r3 r4 hbf og hf HC HTQ HWQ HQB HRQ HTW
          have mT := Lib.hid (lvK_len [] (sh t).ks)
          have mU := Lib.hid (lvK_len [] (sh u).ks)
          have hcu : cnt (sh u) ≤ 1 + 8 * k + 8 := by rw [HSH.out]; have := insT_cnt (sh t) q.l true; have := HCN.out; have := HF.out.len; omega
          have HCU := Lib.hid hcu
          clear hcu
          obtain ⟨c0, c1, c2, c3, c4, oB⟩ := HT2.out.tb.cells
          go_wp2_with (go_at_call 13; refine Stop.here ?_)
          refine Stop.on ?_
          refine (pathsV_any w V t HT2.out.lies HT2.out.below (by have := HCN.out; omega)).mono ?_
          rintro e w' ⟨aA, psA, cA, rfl, hA, hpA, rA, rfl⟩
          have HA := Lib.hid hA
          have HPA := Lib.hid hpA
          have HT3 := Lib.hid (HT2.out.gw rA)
          have HU3 := Lib.hid (HTU.out.gw rA)
          clear hA hpA HT2 HTU c0 c1 c2 c3 c4 oB
          generalize gw V rA = Y at *
          obtain ⟨c0, c1, c2, c3, c4, oB⟩ := HU3.out.tb.cells
          go_wp2_with (go_at_call 13; refine Stop.here ?_)
          refine Stop.on ?_
          refine (pathsV_any w Y u HU3.out.lies HU3.out.below (by have := HCU.out; omega)).mono ?_
          rintro e w' ⟨aB, psB, cB, rfl, hB, hpB, rB, rfl⟩
          have HB := Lib.hid hB
          have HPB := Lib.hid hpB
          have HT4 := Lib.hid (HT3.out.gw rB)
          have HU4 := Lib.hid (HU3.out.gw rB)
          have HPA4 := Lib.hid (HPA.out.gw rB)
          clear hB hpB HT3 HU3 HPA c0 c1 c2 c3 c4 oB
          have HT3 := HT4
          have HU3 := HU4
          have HPA := HPA4
          clear HT4 HU4 HPA4
          generalize gw Y rB = Y at *
          have hmo := (insT_more (sh t) q.l true []).1
          rw [← HSH.out, ← HA.out, ← HB.out] at hmo
          have HMO := Lib.hid hmo
          have hl1 : psA.length ≤ psB.length ∧ psB.length ≤ psA.length + 1 := by simpa using hmo.len
          have HNB := Lib.hid (show psB.length = (lvK [] (sh u).ks).length by rw [← HB.out]; simp)
          have HLB := Lib.hid (show psB.length ≤ 900 by have h1 := HNB.out; have h2 := mU.out; have h3 := cnt_ks (sh u); have := HCU.out; omega)
          clear hmo
          have d1 : decide ((psB.length : Int) < (psA.length : Int)) = false := by simp; omega
          have d2 : decide ((psA.length : Int) + 1 < (psB.length : Int)) = false := by simp; omega
          have d3 : IntKind.i64.wrap ((psA.length : Int) + 1) = (psA.length : Int) + 1 := by rw [IntKind.wrap_i64]; have := HLB.out; omega
          have hqb : ∀ q : Regrown, Below Y.heap.size Y (gw Y.drew q) := fun q => ((Below.refl _ Y).drew).trans (gw_below Y.drew q)
          have HUQ := Lib.hid (fun r => (HU3.out.mono (hqb r)).tb)
          have HWQ := Lib.hid (fun r => (HU3.out.mono (hqb r)).below)
          have HRQ := Lib.hid (fun r => (HR.out.below (HWQ.out r)).get HQ.out)
          have HPBQ := Lib.hid (fun r => HPB.out.below (hqb r))
          have hti : insT (sh u) q.l true = sh u := by rw [HSH.out]; exact insT_twice _ _ _
          have HC := Lib.hid (fun r => insertP_any w u (gw Y.drew r) q.l q.ad q.cap (by rw [nodes_cnt]; have := HCU.out; omega) (HUQ.out r).lies (HWQ.out r) (HF.out.row.below (HWQ.out r)) HF.out.rd HF.out.cap HF.out.nil (by have := HF.out.len; omega))
          rw [hti] at HC
          clear hti
          go_wp2
          refine wp_region_relP 25 [31, 32, 33, 34, 35, 36, 37, 38, 39, 40, 41, 42, 43, 44, 45, 46, 47, 48, 49, 50, 51, 52, 53, 54, 55] [fun _ v => v = trV u, fun _ v => v = .slice (some ⟨b, off, none⟩) ps.length cap, fun _ v => v = .int .i64 k, fun _ v => v = .pointer (some ⟨b, off + k, none⟩), fun _ v => v = paV q, fun w' v => UF w (sh u) 0 w' v, fun w' v => PV (lvK [] (sh u).ks) w' v, fun _ v => v = .slice aB psB.length cB, fun _ v => v = .bool true, fun _ v => v = .bool false, fun _ v => v = .bool false, fun _ v => v = .slice aB psB.length cB, fun _ v => v = .int .i64 psB.length, fun _ v => v = .slice aA psA.length cA, fun _ v => v = .int .i64 psA.length, fun _ v => v = .bool false, fun _ v => v = .bool false, fun _ v => v = .bool false, fun _ v => v = .slice aB psB.length cB, fun _ v => v = .int .i64 psB.length, fun _ v => v = .slice aA psA.length cA, fun _ v => v = .int .i64 psA.length, fun _ v => v = .int .i64 ((psA.length : Int) + 1), fun _ v => v = .bool false, fun _ v => v = .bool false] (by kernel_rfl) (by kernel_rfl) rfl rfl (by simp only [List.drop_succ_cons, List.drop_zero]; rfl) (by decide) rfl (by kernel_rfl) ?_ ?_ ?_
          · exact ⟨fun _ _ _ h => h, fun _ _ _ h => h, fun _ _ _ h => h, fun _ _ _ h => h, fun _ _ _ h => h, fun _ _ q h => h.gw q, fun _ _ q h => h.gw q, fun _ _ _ h => h, fun _ _ _ h => h, fun _ _ _ h => h, fun _ _ _ h => h, fun _ _ _ h => h, fun _ _ _ h => h, fun _ _ _ h => h, fun _ _ _ h => h, fun _ _ _ h => h, fun _ _ _ h => h, fun _ _ _ h => h, fun _ _ _ h => h, fun _ _ _ h => h, fun _ _ _ h => h, fun _ _ _ h => h, fun _ _ _ h => h, fun _ _ _ h => h, fun _ _ _ h => h, trivial⟩
          · refine ⟨?_, ?_, ?_, ?_, ?_, ?_, ?_, ?_, ?_, ?_, ?_, ?_, ?_, ?_, ?_, ?_, ?_, ?_, ?_, ?_, ?_, ?_, ?_, ?_, ?_, trivial⟩
            · refine relAt_seen [5] rfl rfl rfl fun a r hs => ?_
              simp [allSeen, FofL, slot] at hs
              obtain ⟨u0, u1, u2, u3, u4, _⟩ := (HUQ.out r).cells
              simp [execOp, relUpon, FofL, go_sem, gw_ex_self, hs, u0, u1, u2, u3, u4]
            · refine relAt_seen [0] rfl rfl rfl fun a r hs => ?_
              simp [allSeen, FofL, slot] at hs
              simp [execOp, relUpon, FofL, go_sem, gw_ex_self, hs]
            · refine relAt_seen [4] rfl rfl rfl fun a r hs => ?_
              simp [allSeen, FofL, slot] at hs
              simp [execOp, relUpon, FofL, go_sem, gw_ex_self, hs]
            · refine relAt_seen [32, 33] rfl rfl rfl fun a r hs => ?_
              simp [allSeen, FofL, slot] at hs
              simp [execOp, relUpon, FofL, go_sem, gw_ex_self, hs, kb]
            · refine relAt_seen [34] rfl rfl rfl fun a r hs => ?_
              simp [allSeen, FofL, slot] at hs
              obtain ⟨b', off', e, ho, hc⟩ := HRQ.out r
              cases e
              have z0 := hc 0 (by omega)
              simp at z0
              simp [execOp, relUpon, FofL, go_sem, gw_ex_self, hs, z0]
            · refine relAt_seen [31, 35] rfl rfl rfl fun a r hs => ?_
              simp [allSeen, FofL, slot] at hs
              simp only [execOp, relUpon, resolve, invoke, Sem.run_bind, List.map_toArray, List.map_cons, List.map_nil, Act.eval, Array.getD_eq_getD_getElem?, hs.1, hs.2]
              simp [go_sem]
              refine (HC.out r).mono ?_
              rintro e w' ⟨u', p', rfl, rfl, hsh, hl, hf⟩
              refine ⟨_, rfl, ?_, p', rfl⟩
              simp only [FofL, Nat.reduceEqDiff, if_true, if_false]
              exact ⟨u', rfl, hsh, hl, hf.mono (Nat.zero_le _)⟩
            · refine relAt_seen [36] rfl rfl rfl fun a r hs => ?_
              simp [allSeen, FofL, slot] at hs
              obtain ⟨u', h36, hsh, hl, _⟩ := hs
              simp only [execOp, relUpon, resolve, invoke, Sem.run_bind, List.map_toArray, List.map_cons, List.map_nil, Act.eval, Array.getD_eq_getD_getElem?, h36]
              simp [go_sem]
              refine (pathsV_any w _ u' hl (HWQ.out r) (by rw [hsh]; have := HCU.out; omega)).mono ?_
              rintro e w' ⟨a1, p1, c1, rfl, hm, hp, q', rfl⟩
              refine ⟨_, rfl, ?_, q', rfl⟩
              simp only [FofL, Nat.reduceEqDiff, if_true, if_false]
              exact ⟨a1, c1, p1, rfl, by rw [hm, hsh], hp⟩
            · refine relAt_seen [7] rfl rfl rfl fun a r hs => ?_
              simp [allSeen, FofL, slot] at hs
              simp [execOp, relUpon, FofL, go_sem, gw_ex_self, hs]
            · refine relAt_seen [37, 38] rfl rfl rfl fun a r hs => ?_
              simp [allSeen, FofL, slot] at hs
              obtain ⟨⟨a1, c1, p1, h37, l1, q1⟩, h38⟩ := hs
              simp only [execOp, relUpon, resolve, invoke, Sem.run_bind, List.map_toArray, List.map_cons, List.map_nil, Act.eval, Array.getD_eq_getD_getElem?, h37, h38]
              simp [go_sem]
              have hn1 : p1.length = (lvK [] (sh u).ks).length := by rw [← l1]; simp
              refine (samePaths_any a1 aB p1 psB c1 cB _ q1 (HPBQ.out r) (by have := HLB.out; have := HNB.out; omega) (by have := HLB.out; omega)).mono ?_
              rintro e w' ⟨rfl, q', rfl⟩
              refine ⟨_, rfl, ?_, q', rfl⟩
              simp only [FofL, Nat.reduceEqDiff, if_true, if_false]
              rw [samePs_refl (l1.trans HB.out.symm)]
            · refine relAt_seen [39] rfl rfl rfl fun a r hs => ?_
              simp [allSeen, FofL, slot] at hs
              simp [execOp, relUpon, FofL, go_sem, gw_ex_self, hs]
            · refine relAt_seen [40] rfl rfl rfl fun a r hs => ?_
              simp [allSeen, FofL, slot] at hs
              simp [execOp, relUpon, FofL, go_sem, gw_ex_self, hs]
            · refine relAt_want [7, 41] rfl 10 41 false rfl rfl (by simp) (fun w v h => by simpa [FofL] using h) rfl fun a r hs => ?_
              simp [allSeen, FofL, slot] at hs
              simp [execOp, relUpon, FofL, go_sem, gw_ex_self, hs]
            · refine relAt_want [42, 41] rfl 10 41 false rfl rfl (by simp) (fun w v h => by simpa [FofL] using h) rfl fun a r hs => ?_
              simp [allSeen, FofL, slot] at hs
              simp [relUpon, FofL, go_sem, gw_ex_self, hs]
            · refine relAt_want [6, 41] rfl 10 41 false rfl rfl (by simp) (fun w v h => by simpa [FofL] using h) rfl fun a r hs => ?_
              simp [allSeen, FofL, slot] at hs
              simp [execOp, relUpon, FofL, go_sem, gw_ex_self, hs]
            · refine relAt_want [44, 41] rfl 10 41 false rfl rfl (by simp) (fun w v h => by simpa [FofL] using h) rfl fun a r hs => ?_
              simp [allSeen, FofL, slot] at hs
              simp [relUpon, FofL, go_sem, gw_ex_self, hs]
            · refine relAt_want [43, 45, 41] rfl 10 41 false rfl rfl (by simp) (fun w v h => by simpa [FofL] using h) rfl fun a r hs => ?_
              simp [allSeen, FofL, slot] at hs
              simp [execOp, relUpon, FofL, go_sem, gw_ex_self, hs, hl1.1]
            · refine relAt_seen [41, 46] rfl rfl rfl fun a r hs => ?_
              simp [allSeen, FofL, slot] at hs
              simp [execOp, relUpon, FofL, go_sem, gw_ex_self, hs]
            · refine relAt_seen [47] rfl rfl rfl fun a r hs => ?_
              simp [allSeen, FofL, slot] at hs
              simp [execOp, relUpon, FofL, go_sem, gw_ex_self, hs]
            · refine relAt_want [7, 48] rfl 17 48 false rfl rfl (by simp) (fun w v h => by simpa [FofL] using h) rfl fun a r hs => ?_
              simp [allSeen, FofL, slot] at hs
              simp [execOp, relUpon, FofL, go_sem, gw_ex_self, hs]
            · refine relAt_want [49, 48] rfl 17 48 false rfl rfl (by simp) (fun w v h => by simpa [FofL] using h) rfl fun a r hs => ?_
              simp [allSeen, FofL, slot] at hs
              simp [relUpon, FofL, go_sem, gw_ex_self, hs]
            · refine relAt_want [6, 48] rfl 17 48 false rfl rfl (by simp) (fun w v h => by simpa [FofL] using h) rfl fun a r hs => ?_
              simp [allSeen, FofL, slot] at hs
              simp [execOp, relUpon, FofL, go_sem, gw_ex_self, hs]
            · refine relAt_want [51, 48] rfl 17 48 false rfl rfl (by simp) (fun w v h => by simpa [FofL] using h) rfl fun a r hs => ?_
              simp [allSeen, FofL, slot] at hs
              simp [relUpon, FofL, go_sem, gw_ex_self, hs]
            · refine relAt_want [52, 48] rfl 17 48 false rfl rfl (by simp) (fun w v h => by simpa [FofL] using h) rfl fun a r hs => ?_
              simp [allSeen, FofL, slot] at hs
              simp [execOp, relUpon, FofL, go_sem, gw_ex_self, hs, d3]
            · refine relAt_want [50, 53, 48] rfl 17 48 false rfl rfl (by simp) (fun w v h => by simpa [FofL] using h) rfl fun a r hs => ?_
              simp [allSeen, FofL, slot] at hs
              simp [execOp, relUpon, FofL, go_sem, gw_ex_self, hs, d2]
            · refine relAt_seen [48, 54] rfl rfl rfl fun a r hs => ?_
              simp [allSeen, FofL, slot] at hs
              simp [execOp, relUpon, FofL, go_sem, gw_ex_self, hs]
          · intro vs' r hlen hv
            match vs', hlen with
            | [v31, v32, v33, v34, v35, v36, v37, v38, v39, v40, v41, v42, v43, v44, v45, v46, v47, v48, v49, v50, v51, v52, v53, v54, v55], hl0 =>
              clear hl0 hlen
              have h55 : v55 = .bool false := by
                simp only [relVals] at hv
                exact hv.2.2.2.2.2.2.2.2.2.2.2.2.2.2.2.2.2.2.2.2.2.2.2.2.1
              clear hv
              subst h55
              simp only [putL, Act.put, List.setIfInBounds_toArray, List.set_cons_zero, List.set_cons_succ]
              have HT4 := Lib.hid (HT3.out.mono (hqb r))
              have HU4 := Lib.hid (HU3.out.mono (hqb r))
              have HA4 := Lib.hid (HPA.out.below (hqb r))
              have HB4 := Lib.hid (HPB.out.below (hqb r))
              clear HT3 HU3 HPA HPB HC HWQ HPBQ HUQ HRQ hqb
              generalize gw Y.drew r = Y2 at *
              have HLP := Lib.hid (lp_sub (f := sameP) (fun p => p.l.map vs) sameP_iff psB psA (by
                have := HMO.out.sub.map (List.map vs)
                simpa [List.map_map, Function.comp_def] using this))
              have HLA := Lib.hid hl1
              clear hl1 d1 d2 d3 kb mT mU HNB HMO hBg HA HB
              have hb900 : psB.length ≤ 900 := HLB.out
              have ha900 : psA.length ≤ 900 := by have := HLA.out; omega
              go_wp2
              go_loopw [8, 9] (fun i j wq => ∃ (n m : Nat) (r : Regrown), n ≤ psA.length ∧ m ≤ psB.length ∧ i = .int .i64 n ∧ j = .int .i64 m ∧ Hid (n + lp sameP (psA.drop n) (psB.drop m) = psA.length) ∧ wq = gw Y2 r) (fun _ j _ => psB.length - (intOf j).toNat)
              case atStart => exact ⟨0, 0, _, by omega, by omega, rfl, rfl, Lib.hid (by simpa using HLP.out), gw_self _⟩
              case round =>
                obtain ⟨n, m, r, hn, hm, rfl, rfl, hlp, rfl⟩ := hrel
                by_cases hmt : m < psB.length
                · have mb : (m : Int) < psB.length := by omega
                  by_cases hnt : n < psA.length
                  · have nb : (n : Int) < psA.length := by omega
                    obtain ⟨x, hx⟩ := get_some hnt
                    obtain ⟨y, hy⟩ := get_some hmt
                    obtain ⟨b1, o1, rfl, ho1, hc1⟩ := HA4.out.row.get hx
                    obtain ⟨b2, o2, rfl, ho2, hc2⟩ := HB4.out.row.get hy
                    have f0 := hc1 0 (by omega)
                    have g0 := hc2 0 (by omega)
                    simp at f0 g0
                    have HX := Lib.hid hx
                    have HY := Lib.hid hy
                    have q1 := HA4.out.at' x (List.mem_of_getElem? hx)
                    have q2 := HB4.out.at' y (List.mem_of_getElem? hy)
                    have hd := fun r => sameAll_any x.ad y.ad x.l y.l x.cap y.cap (gw Y2 r) (q1.1.gw r) (q2.1.gw r) q1.2 q2.2
                    clear hx hy hc1 hc2 q1 q2
                    obtain ⟨d, he⟩ : ∃ d, eqL same x.l y.l = d := ⟨_, rfl⟩
                    rw [he] at hd
                    have HD := Lib.hid hd
                    have HE := Lib.hid (show sameP x y = d from he)
                    clear hd he
                    cases d
                    · have he := Lib.hid ((congrArg (n + ·) (lp_no HX.out HY.out HE.out).symm).trans hlp.out)
                      go_wp2
                      refine wp_region_gw (by kernel_rfl) (by kernel_rfl) ?_
                      repeat (quiet_step (first | (go_at_call 16; exact DGives HD.out _ _)))
                      refine wpQuiet_nil ?_
                      intro _ hw'
                      obtain ⟨p1, hw''⟩ := hw'
                      subst hw''
                      go_wp2
                      go_roundw
                      case rel =>
                        obtain ⟨r', hr'⟩ := back_gw Y2 r p1
                        exact ⟨n, m + 1, r', hn, by omega, rfl, by go_num, he, hr'⟩
                      case measure => simp [intOf]; omega
                    · have he := Lib.hid (show (n + 1) + lp sameP (psA.drop (n + 1)) (psB.drop (m + 1)) = psA.length by have := hlp.out; rw [lp_yes HX.out HY.out HE.out] at this; omega)
                      go_wp2
                      refine wp_region_gw (by kernel_rfl) (by kernel_rfl) ?_
                      repeat (quiet_step (first | (go_at_call 16; exact DGives HD.out _ _)))
                      refine wpQuiet_nil ?_
                      intro _ hw'
                      obtain ⟨p1, hw''⟩ := hw'
                      subst hw''
                      go_wp2
                      go_roundw
                      case rel =>
                        obtain ⟨r', hr'⟩ := back_gw Y2 r p1
                        exact ⟨n + 1, m + 1, r', by omega, by omega, by go_num, by go_num, he, hr'⟩
                      case measure => simp [intOf]; omega
                  · obtain rfl : n = psA.length := by omega
                    have hz : ((psA.length : Int) != (psA.length : Int)) = false := by simp
                    have HTf := Lib.hid (HT4.out.gw r)
                    have HUf := Lib.hid (HU4.out.gw r)
                    have oldA : Old w.heap.size (gw Y2 r) ∨ True := .inr trivial
                    clear oldA
                    generalize gw Y2 r = P at *
                    obtain ⟨c0, c1, c2, c3, c4, oG⟩ := HUf.out.tb.cells
                    obtain ⟨b0, b1, b2, b3, b4, oB⟩ := HTf.out.tb.cells
                    have hbf := fun i => HTf.out.tb.free i
                    go_wp2
                    go_roundw
                    case rel =>
                      exact ⟨k + 1, u, by omega, by go_num, Lib.hid (by have := HCU.out; omega), Lib.hid (TW.put HTf.out.below HTf.out.low HTf.out.row HUf.out.lies HAV.out)⟩
                    case measure => simp [intOf]; omega
                · obtain rfl : n = psA.length := by have := hlp.out; rw [List.drop_of_length_le (l := psB) (by omega), lp_nil] at this; omega
                  have hz : ((psA.length : Int) != (psA.length : Int)) = false := by simp
                  have HTf := Lib.hid (HT4.out.gw r)
                  have HUf := Lib.hid (HU4.out.gw r)
                  have oldA : Old w.heap.size (gw Y2 r) ∨ True := .inr trivial
                  clear oldA
                  generalize gw Y2 r = P at *
                  obtain ⟨c0, c1, c2, c3, c4, oG⟩ := HUf.out.tb.cells
                  obtain ⟨b0, b1, b2, b3, b4, oB⟩ := HTf.out.tb.cells
                  have hbf := fun i => HTf.out.tb.free i
                  go_wp2
                  go_roundw
                  case rel =>
                    exact ⟨k + 1, u, by omega, by go_num, Lib.hid (by have := HCU.out; omega), Lib.hid (TW.put HTf.out.below HTf.out.low HTf.out.row HUf.out.lies HAV.out)⟩
                  case measure => simp [intOf]; omega
    · go_wp2
      have he := Lib.hid (show true = true from rfl)
      have HB := Lib.hid HTW.out.below
      go_ret; exact Gives.mk (by rw [he.out]; rfl) (by have hb' := HB.out; have hs' := HB.out.size; repeat (first | exact hb' | refine below_gw ?_ (by first | (simp; done) | (simp; omega) | omega) _ | refine Below.alloc ?_ (by first | (simp; done) | (simp; omega) | omega) _ | refine Below.setCell ?_ (by first | (simp; done) | (simp; omega) | omega) | refine Below.drew ?_))

end Go.Proofs.Ytmgiojkdcpolfaa
