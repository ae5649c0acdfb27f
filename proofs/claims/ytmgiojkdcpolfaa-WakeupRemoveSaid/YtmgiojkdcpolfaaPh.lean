/- Paths. -/
import Derived.Test.YtmgiojkdcpolfaaLv
import Derived.Maps.OwnIn
namespace Go.Proofs.Ytmgiojkdcpolfaa
open Go.RowKit Go.Sort Go.Shelf PT
attribute [local go_sem] Oper.semAt_some

abbrev paC (p : PA) : List Value := [paV p]
theorem paC_len (p : PA) : (paC p).length = 1 := rfl
theorem paC_one (p : PA) : ∀ u ∈ paC p, u.oneCell' = true := by
  intro u hu
  simp at hu
  subst hu
  rfl
theorem path_info : ∃ (i : TypeInfo) (z : Value), Hid (Try.prog.info? 41 = some i ∧ i.zero = some z ∧ i.size = 1 ∧ i.bytes = 24 ∧ z.cells.size = 1) := info_of (by kernel_rfl)

/-- What has been collected. -/
structure PI (W0 w : World) (B : Nat) (pre : List PA) (W : World) : Prop where
  box : ∃ v, W.heap[B]? = some (.cells #[v] 22 (0, 0)) ∧ W.ownsRow w.heap.size 41 1 v pre.length (pre.flatMap paC) ∧ v.ownBlock ≠ some B
  ps : ∀ p ∈ pre, PAok W0 B W p
  below : Below w.heap.size w W
  low : w.heap.size ≤ B
theorem PI.cok {W0 w W : World} {B : Nat} {pre : List PA} (h : PI W0 w B pre W) : Cok B W := by
  obtain ⟨v, h1, h2, _⟩ := h.box
  exact ⟨v, row_cells h1 0, fun g e => (h2.lt g e).2⟩
theorem PI.keep {W0 w A V : World} {B : Nat} {pre : List PA} (h : PI W0 w B pre A) {row : Option Nat} (hg : A.grownBy V row) (hr : ∀ r, row = some r → w.heap.size ≤ r ∧ ∃ o : Obj, A.heap[r]? = some o ∧ o.isCells = false) : PI W0 w B pre V := by
  have hc := h.cok
  obtain ⟨v, h1, h2, h3⟩ := h.box
  exact ⟨⟨v, block_keep hg (fun r e => (hr r e).2) h1, own_keep h2 hg (fun r e => (hr r e).2), h3⟩, fun p hp => (h.ps p hp).keep hc hg (fun r e => (hr r e).2), below_grown h.below hg h.below.size (fun k e => (hr k e).1), h.low⟩
theorem PI.app {W0 w W w5 : World} {B n : Nat} {pre : List PA} {x : PA} {v v' : Value} (h : PI W0 w B pre W) (hx : PAok W0 B W x) (h1 : W.heap[B]? = some (.cells #[v] 22 (0, 0))) (h2 : W.ownsRow w.heap.size 41 1 v pre.length (pre.flatMap paC)) (h3 : v.ownBlock ≠ some B)
    (hown : w5.ownsRow w.heap.size 41 1 v' (pre.length + 1) (pre.flatMap paC ++ paC x)) (hg : (W.alloc (.cells #[paV x] 41)).grownBy w5 v.ownBlock) (hat : v'.ownBlock = v.ownBlock ∨ v'.ownBlock = some (W.alloc (.cells #[paV x] 41)).heap.size) :
    PI W0 w B (pre ++ [x]) (w5.setCell ⟨B, 0, none⟩ v') ∧ KpL B w.heap.size n W (w5.setCell ⟨B, 0, none⟩ v') ∧ KeepsOthers W (w5.setCell ⟨B, 0, none⟩ v') := by
  have hB := (Array.getElem?_eq_some_iff.1 h1).1
  have hs := grown_set w5 ⟨B, 0, none⟩ v'
  have ha := World.grownBy_alloc W (.cells #[paV x] 41) none
  have hblk : ∀ (k : Nat) (o : Obj), k ≠ B → some k ≠ v.ownBlock → W.heap[k]? = some o → (w5.setCell ⟨B, 0, none⟩ v').heap[k]? = some o := fun k o hk hv ho => by
    have h4 := (ha.block k (Array.getElem?_eq_some_iff.1 ho).1 (by simp)).trans ho
    have h5 := (hg.block k (Array.getElem?_eq_some_iff.1 h4).1 hv).trans h4
    exact (hs.block k (Array.getElem?_eq_some_iff.1 h5).1 (fun e => hk (by cases e; rfl))).trans h5
  have hrow : (w5.setCell ⟨B, 0, none⟩ v').heap[B]? = some (.cells #[v'] 22 (0, 0)) := by
    have h4 := (ha.block B hB (by simp)).trans h1
    have h5 := (hg.block B (Array.getElem?_eq_some_iff.1 h4).1 (fun e => h3 e.symm)).trans h4
    simp [World.setCell, Array.getElem?_modify, h5]
  have hne' : v'.ownBlock ≠ some B := by
    rcases hat with e | e
    · rw [e]; exact h3
    · rw [e]; intro e'; cases e'; simp at hB; omega
  have hsz : W.heap.size ≤ (w5.setCell ⟨B, 0, none⟩ v').heap.size := Nat.le_trans ha.size (Nat.le_trans hg.size hs.size)
  have hbel : Below w.heap.size w (w5.setCell ⟨B, 0, none⟩ v') := below_grown (below_grown (h.below.alloc h.below.size _) hg (by have := h.below.size; simp; omega) (fun k e => (h2.lt k e).1)) hs (by have := h.below.size; have := hg.size; simp at this; omega) (fun k e => by cases e; exact h.low)
  have hcons : ∀ k, k < W.heap.size → ¬ Cons B W k → ¬ Cons B (w5.setCell ⟨B, 0, none⟩ v') k := fun k hk hn hc => by
    rcases hc with rfl | ⟨u, hu, hu2⟩
    · exact hn (.inl rfl)
    · have hcell := (row_cells hrow 0).trans (show _ = some v' from rfl)
      rw [hu] at hcell
      cases hcell
      rcases hat with e | e
      · exact hn (.inr ⟨v, row_cells h1 0, by rw [← e]; exact hu2⟩)
      · rw [e] at hu2; cases hu2; simp at hk; omega
  have hoth : ∀ (k : Nat) (o : Obj), W.heap[k]? = some o → o.isCells = false → (w5.setCell ⟨B, 0, none⟩ v').heap[k]? = some o := fun k o ho hc => by
    refine hblk k o (fun e => ?_) (fun e => ?_) ho
    · subst e; rw [h1] at ho; cases ho; cases hc
    · rcases h2.2 with ⟨rfl, _⟩ | ⟨g, cap, cur, rfl, _, hh, _⟩
      · cases e
      · cases e; rw [hh] at ho; cases ho; cases hc
  have hk : KpL B w.heap.size n W (w5.setCell ⟨B, 0, none⟩ v') := by
    refine ⟨?_, hsz, fun k o _ ho hc => ?_, fun k o hn ho hc => ⟨?_, ?_⟩⟩
    · exact below_grown (below_grown ((Below.refl _ W).alloc h.below.size _) hg (by have := h.below.size; simp; omega) (fun k e => (h2.lt k e).1)) hs (by have := h.below.size; have := hg.size; simp at this; omega) (fun k e => by cases e; exact h.low)
    · exact hoth k o ho hc
    · exact hblk k o (fun e => hn (.inl e)) (fun e => hn (.inr ⟨v, row_cells h1 0, e.symm⟩)) ho
    · exact hcons k (Array.getElem?_eq_some_iff.1 ho).1 hn
  refine ⟨⟨⟨v', hrow, ?_, hne'⟩, fun p hp => ?_, hbel, h.low⟩, hk, hsz, fun k o ho hc => hoth k o ho hc⟩
  · rw [List.length_append, List.flatMap_append]
    refine own_of_block (w := w5) (by simpa using hown) fun g hgg => hs.block g (hown.lt g hgg).2 (fun e => hne' (by rw [hgg, e]))
  · rcases List.mem_append.1 hp with hp | hp
    · exact (h.ps p hp).kp hk
    · rw [List.mem_singleton.1 hp]; exact hx.kp hk

theorem own_alloc {w : World} {B : Nat} {e : TypeId} {size n : Nat} {v : Value} {xs : List Value} (h : w.ownsRow B e size v n xs) (o : Obj) : (w.alloc o).ownsRow B e size v n xs := own_of_block h fun g hg => Below.heap_alloc _ _ _ (h.lt g hg).2
theorem one_news (W : World) (x : Value) (t : TypeId) {l : List Value} (hl : l = [x]) : ∀ (j : Nat) u, l[j]? = some u → (W.alloc (.cells #[x] t)).cell? ((⟨W.heap.size, 0, none⟩ : Addr).add j) = some u := by
  subst hl
  intro j u hu
  match j, hu with
  | 0, hu =>
    simp at hu
    subst hu
    exact (row_cells (heap_alloc_at' W (.cells #[x] t) W.heap.size rfl) 0).trans rfl
  | j + 1, hu => simp at hu
theorem pi_box {W w5 : World} {B : Nat} {v : Value} {x : Value} {t : TypeId} (h1 : W.heap[B]? = some (.cells #[v] 22 (0, 0))) (h3 : v.ownBlock ≠ some B) (hg : (W.alloc (.cells #[x] t)).grownBy w5 v.ownBlock) : w5.heap[B]? = some (.cells #[v] 22 (0, 0)) := by
  have h4 := (Below.heap_alloc W (.cells #[x] t) B (Array.getElem?_eq_some_iff.1 h1).1).trans h1
  exact (hg.block B (Array.getElem?_eq_some_iff.1 h4).1 (fun e => h3 e.symm)).trans h4

/-- What Paths gives. -/
def PathsPost (W0 : World) (ls : List (List PS)) (w : World) (e : Ending) (w' : World) : Prop := ∃ (v : Value) (ps : List PA) (p : Regrown), e = .returned v ∧ w' = gw w p ∧ ps.map PA.l = ls ∧ w'.ownsRow w.heap.size 41 1 v ps.length (ps.flatMap paC) ∧ ∀ q ∈ ps, Row 4 stC w' q.ad q.l ∧ q.l.length ≤ q.cap ∧ (q.ad = none → q.cap = 0) ∧ ∀ s ∈ q.l, Rd W0 s

set_option maxRecDepth 100000 in
set_option maxHeartbeats 4000000 in
theorem pathsP_any (W0 w : World) (t : PT) (hL : Lies W0 w t) (hW : Below W0.heap.size W0 w) (hm : (nodes t).length ≤ 900) (hpl : (lvK [] (t.ks.map sh)).length ≤ 100000) :
    Calls Try.prog 13 #[trV t] w (PathsPost W0 (lvK [] (t.ks.map sh)) w) := by
  obtain ⟨i0, z0, HI⟩ := path_info
  have HL := Lib.hid hL
  have HW := Lib.hid hW
  clear hL hW
  obtain ⟨X, hX⟩ : ∃ X, X = (w.alloc (.cells (trC t).toArray 33)).alloc (.cells #[.slice none 0 0] 22) := ⟨_, rfl⟩
  have hbX : Below w.heap.size w X := by rw [hX]; exact (by repeat (first | exact Below.refl _ _ | refine below_gw ?_ (by simp; try omega) _ | refine Below.alloc ?_ (by simp; try omega) _ | refine Below.setCell ?_ (by simp; try omega) _ | refine Below.drew ?_))
  have hXs : X.heap.size = w.heap.size + 1 + 1 := by rw [hX]; simp
  have hPI : PI W0 w (w.heap.size + 1) [] X := ⟨⟨_, by rw [hX]; exact heap_alloc_at' _ _ _ (by simp), World.ownsRow_nil _ _ _ _, by simp [Value.ownBlock]⟩, fun _ h => absurd h (by simp), hbX, by omega⟩
  have HP0 := Lib.hid hPI
  have hrow := show X.heap[w.heap.size]? = some (.cells (trC t).toArray 33 (0, 0)) by rw [hX, heap_alloc_past' _ _ _ (by simp [Old])]; exact heap_alloc_at' _ _ _ rfl
  have g0 := (row_cells hrow 0).trans (show _ = some (.int .i64 t.s.g) from rfl)
  have g1 := (row_cells hrow 1).trans (show _ = some (.int .i64 t.s.c) from rfl)
  have g2 := (row_cells hrow 2).trans (show _ = some (.slice t.s.ga t.s.gs.length t.s.gc) from rfl)
  have g3 := (row_cells hrow 3).trans (show _ = some (.slice t.s.ta t.s.ts.length t.s.tc) from rfl)
  have g4 := (row_cells hrow 4).trans (show _ = some (.slice t.ad t.ks.length t.cap) from rfl)
  have ob : Old w.heap.size X := Old.of_cell g0
  clear hbX hPI hrow
  refine calls_of_wp_m 10 Try.func13 rfl ?_
  simp only [Try.ntmps13, List.size_toArray, List.length_cons, List.length_nil, Nat.reduceAdd, Nat.reduceSub, Array.replicate_succ, Array.replicate_zero, List.push_toArray, List.append_toArray, List.nil_append, List.cons_append]
  go_wp2_with (go_at_call 35; refine Stop.here ?_)
  refine Stop.on ?_
  rw [show (w.alloc (.cells #[.int .i64 t.s.g, .int .i64 t.s.c, .slice t.s.ga t.s.gs.length t.s.gc, .slice t.s.ta t.s.ts.length t.s.tc, .slice t.ad t.ks.length t.cap] 33)).alloc (.cells #[.slice none 0 0] 22) = X from hX.symm]
  clear hX
  have hcall := leaves_any X t ⟨none, [], 0⟩
  simp only [trV, paV, List.length_nil] at hcall
  refine hcall.mono ?_
  rintro e W7 ⟨rfl, rfl⟩
  clear hcall g0 g1 g2 g3 g4 ob
  obtain ⟨V7, hV7⟩ : ∃ V7, V7 = (X.alloc (.cells (trC t).toArray 33)).alloc (.cells #[.slice none 0 0] 41) := ⟨_, rfl⟩
  rw [← hV7]
  have hb7 : Below X.heap.size X V7 := by rw [hV7]; exact ((Below.refl _ _).alloc (Nat.le_refl _) _).alloc (by simp) _
  have hs7 : V7.heap.size = X.heap.size + 1 + 1 := by rw [hV7]; simp
  have HMA := Lib.hid (show Mine (w.heap.size + 1) V7 X.heap.size (trC t).toArray 33 from ⟨by rw [hV7, heap_alloc_past' _ _ _ (by simp [Old])]; exact heap_alloc_at' _ _ _ rfl, cons_new HP0.out.cok hb7 (Nat.le_refl _)⟩)
  have HMB := Lib.hid (show Mine (w.heap.size + 1) V7 (X.heap.size + 1) #[paV ⟨none, [], 0⟩] 41 from ⟨by rw [hV7]; exact heap_alloc_at' _ _ _ (by simp), cons_new HP0.out.cok hb7 (by omega)⟩)
  have HP7 := Lib.hid (HP0.out.keep (V := V7) (row := none) ⟨hb7.os, hb7.tape, hb7.output, hb7.size, fun k hk _ => hb7.block k hk⟩ (fun r e => by cases e))
  have HT7 := Lib.hid (HP7.out.below)
  clear hV7 hb7 HP0
  go_wp2
  refine (wpIn_wide (n := 10)).1 (wpIn_rangeFunc_u (F := Fence.wide) (n := 10) (α := PA) (fun pre x' W => pre.length < (lvK [] (t.ks.map sh)).length ∧ PAok W0 (w.heap.size + 1) W x') rfl (by omega) (gf := 63) (lb := #[.pointer (some ⟨X.heap.size, 0, none⟩), .pointer (some ⟨X.heap.size + 1, 0, none⟩)]) (by rw [hXs]; rfl) trivial (enters_of Try.func63 (by kernel_rfl) rfl)
    (fun pre W => PI W0 w (w.heap.size + 1) pre W) (encs := fun x' => #[paV x']) (Kp := fun _ => KpL (w.heap.size + 1) w.heap.size (V7.heap.size + 2)) (S := fun ys => ys.map PA.l = lvK [] (t.ks.map sh)) ?seq ?okb (fun h k => h.trans k) ?kb (fun _ => rfl) ?hI HP7.out
    (fun a x' a' _ => a' = { tmps := (a.tmps.setIfInBounds 7 (paV x')).setIfInBounds 4 (paV x'), defers := [] }) ?hAx ?assign ?body ?done)
  case seq =>
    intro lq J' W hW hWs hJ' hJI hY' h0'
    exact leavesK_in W0 w (w.heap.size + 1) _ t ⟨none, [], 0⟩ lq (V7.heap.size + 2) X.heap.size (X.heap.size + 1) J' W (Nat.le_refl _) hm (by simp; omega) HL.out (HT7.out.trans (hW.mono (by omega))) HW.out hJ'
      (fun pre W' h => (hJI _ _ h).cok) hWs (fun m' pre x' W1 hpl hok hj => YieldAt.any m' (hY' pre x' W1 ⟨hpl, hok⟩ hj)) (HMA.out.below HP7.out.cok hW) (HMB.out.below HP7.out.cok hW) ⟨Row.nil _, fun _ h => (by cases h), (by simp), fun _ => rfl, fun _ h => absurd h (by simp)⟩ h0'
  case okb =>
    intro pre x' W l o o' hl ho hco h
    exact ⟨h.1, h.2.put o' (by omega) ho hco⟩
  case kb =>
    intro x' W o o' ho hco
    exact (KpL.refl W).put o' (.inr (by omega)) (by omega) (by omega) ho hco
  case hI => exact fun pre A V' row hs hg hr => hs.keep hg (fun r e => ⟨by have := (hr r e).1; omega, (hr r e).2⟩)
  case hAx => exact fun _ _ _ _ _ _ h _ _ => h
  case assign =>
    intro lq pre x' W K' hok hI hK'
    gi_wp2
    exact hK' _ _ (KeepsFrom.refl _ _) (KpL.refl _) hI hok rfl
  case body =>
    rintro lq pre x' a' W hl ⟨r', hr'⟩ hok hI rfl
    obtain ⟨xad, xl, xc⟩ := x'
    obtain ⟨v, h1, h2, h3⟩ := hI.box
    have HPI := Lib.hid hI
    have HOK := Lib.hid hok
    have H1 := Lib.hid h1
    have H2 := Lib.hid h2
    have H3 := Lib.hid h3
    have c0 := (row_cells h1 0).trans (show _ = some v from rfl)
    have ob : Old (w.heap.size + 1) W := Old.of_cell c0
    have h2' := h2
    clear h1 h2 h3 hI hok hr'
    obtain ⟨va, vcp, rfl, _, _⟩ := own_val h2'
    iterate 12 gi_step
    refine wpListIn_append_own_at _ rfl _ _ 22 rfl w.heap.size 41 i0 z0 1 24 rfl HI.out.1 HI.out.2.1 HI.out.2.2.1 HI.out.2.2.2.1 HI.out.2.2.2.2 (by omega) (.slice va pre.length vcp) pre.length (pre.flatMap paC) rfl (own_alloc H2.out _) ⟨W.heap.size, 0, none⟩ 1 1 [paV ⟨xad, xl, xc⟩] rfl rfl (one_news W _ _ rfl) (by simp [Value.oneCell']) (by simp only [maxLen]; have := HOK.out.1; omega) (by have := HOK.out.1; omega) (by have := HPI.out.below.size; simp; omega) ?_
    intro v' w5 hown hgrow _ hat
    have HF := Lib.hid (HPI.out.app (n := V7.heap.size + 2) HOK.out.2 H1.out H2.out H3.out hown hgrow hat)
    have hb5 := Lib.hid (pi_box H1.out H3.out hgrow)
    obtain ⟨va5, vc5, rfl, _, _⟩ := own_val hown
    have hbf : World.frozen? w5 ⟨w.heap.size + 1, 0, none⟩ = false := by simp [World.frozen?, hb5.out]
    clear hown hgrow hat
    have c1 := (row_cells hb5.out 0).trans (show _ = some (.slice va pre.length vcp) from rfl)
    have ob5 : Old (w.heap.size + 1) w5 := Old.of_cell c1
    gi_wp2
    exact ⟨⟨HF.out.2.2.1, fun k o _ => HF.out.2.2.2 k o⟩, HF.out.2.1, HF.out.1⟩
  case done =>
    rintro D ys W hD hS hI hKD
    have HSS := Lib.hid hS
    have HKD := Lib.hid hKD
    obtain ⟨v, h1, h2, h3⟩ := hI.box
    have c0 := (row_cells h1 0).trans (show _ = some v from rfl)
    have ob : Old (w.heap.size + 1) W := Old.of_cell c0
    have HPI := Lib.hid hI
    have H2 := Lib.hid h2
    clear h1 h2 h3 hI hS hKD
    go_wp2
    show LeavesInM Fence.wide 10 Try.prog Try.f13 _ _ [markOf D] .returning W
    refine leaves_marks (v := v) (fun w => by simp [results, Try.results13, go_sem]) (fun W' => PI W0 w (w.heap.size + 1) ys W' ∧ W'.ownsRow w.heap.size 41 1 v ys.length (ys.flatMap paC)) ?_ [D] ?_ [D] W (fun _ h => h) (fun E hE => by rw [List.mem_singleton.1 hE]; exact HKD.out) (by simp) ⟨HPI.out, H2.out⟩
    · rintro W' ⟨hp, ho⟩
      obtain ⟨pf, hpf⟩ := gw_of_below hp.below
      exact ⟨v, ys, pf, rfl, hpf, HSS.out, ho, fun q hq => ⟨(hp.ps q hq).row, (hp.ps q hq).cap, (hp.ps q hq).nil, (hp.ps q hq).rd⟩⟩
    · rintro W' E hE ⟨hp, ho⟩ hd
      obtain rfl := List.mem_singleton.1 hE
      have hr : ∀ r, some E = some r → w.heap.size ≤ r ∧ ∃ o : Obj, W'.heap[r]? = some o ∧ o.isCells = false := fun r e => by cases e; exact ⟨by have := HT7.out.size; omega, _, hd, rfl⟩
      exact ⟨hp.keep (grownBy_putObj' W' E (.deferred none)) hr, own_keep ho (grownBy_putObj' W' E (.deferred none)) (fun r e => (hr r e).2)⟩

end Go.Proofs.Ytmgiojkdcpolfaa
