/- clone. -/
import Derived.Test.YtmgiojkdcpolfaaPt
import Derived.Test.YtmgiojkdcpolfaaRp
namespace Go.Proofs.Ytmgiojkdcpolfaa
open Go.RowKit Go.Sort PT

theorem grown_set (w : World) (a : Addr) (v : Value) : w.grownBy (w.setCell a v) (some a.block) := ⟨rfl, rfl, rfl, by simp, fun k _ hk => Below.heap_setCell w a v k (fun e => hk (by rw [e]))⟩
theorem grown_alloc (w : World) (o : Obj) (g : Option Nat) : w.grownBy (w.alloc o) g := World.grownBy_alloc w o g
theorem grown_gw (w : World) (p : Regrown) (g : Option Nat) : w.grownBy (gw w p) g := ⟨(gw_below w p).os, (gw_below w p).tape, (gw_below w p).output, (gw_below w p).size, fun k hk _ => gw_heap w p k hk⟩
theorem step_append_row {α : Type} {n : Nat} {f : α → List Value} {P : Program} {w : World} {ops : Array Oper} {o : Oper} {a : Act} {K : Act → World → Prop} {Q : Exit → Act → World → Prop} {E : Prop} (hgd : o.guard = none) (s x : Operand) (t : TypeId)
    (ho : o.op = .call { callee := .builtin .append, args := #[s, x], argTypes := #[t, t] })
    (base : Nat) (e : TypeId) (i : TypeInfo) (z : Value) (bytes : Nat) (ht : P.underlying t = some (.slice e)) (hi : P.info? e = some i) (hz : i.zero = some z)
    (hsize : i.size = n) (hby : i.bytes = bytes) (hzs : z.cells.size = n) (hsz : 0 < n) (hf : ∀ x, (f x).length = n) (h1 : ∀ x, ∀ u ∈ f x, u.oneCell' = true)
    (v : Value) (m : Nat) (xs : List Value) (hs : a.eval s = v) (hown : w.ownsRow base e n v m xs) (ad : Option Addr) (c : Nat) (l : List α) (hnil : ad = none → c = 0) (hx : a.eval x = .slice ad l.length c) (hr : Row n f w ad l)
    (h63 : m + l.length ≤ maxLen) (hbytes : (m + l.length) * bytes ≤ 140737488355328) (hbase : base ≤ w.heap.size)
    (h : ∀ v' w', w'.ownsRow base e n v' (m + l.length) (xs ++ l.flatMap f) → w.grownBy w' v.ownBlock → (v'.ownBlock = v.ownBlock ∨ v'.ownBlock = some w.heap.size) → K (a.put o.dst v') w') :
    if Region.wanted o (yielded ops a.tmps) = true then Oper.wp P o a w K Q else E := by
  have hw : Region.wanted o (yielded ops a.tmps) = true := by simp [Region.wanted, hgd]
  rw [if_pos hw]
  obtain ⟨v', w', hrun, h2, h3, h5⟩ := run_append_row w base t o.type e i z n bytes ht hi hz hsize hby hzs hsz hf v m xs hown ad c l hnil hr h1 h63 hbytes hbase
  unfold Oper.wp execOp
  simp only [ho, resolve, invoke, builtin, Sem.run_bind, Sem.run_pure, Result.andThen_ok, List.map_toArray, List.map_cons, List.map_nil, hs, hx, hrun]
  exact h v' w' h2 h3 h5

def boxC (s : PS) (v : Value) : Array Value := #[.int .i64 s.g, .int .i64 s.c, .slice s.ga s.gs.length s.gc, .slice s.ta s.ts.length s.tc, v]
/-- A tree that is being built in the box bo. -/
structure CI (W0 w wr : World) (s : PS) (rb bo : Nat) (v : Value) (cs : List PT) : Prop where
  below : Below w.heap.size w wr
  own : wr.ownsRow w.heap.size 33 5 v cs.length (cs.flatMap trC)
  lies : ∀ c ∈ cs, Lies W0 wr c ∧ Fresh w.heap.size c ∧ Avoid v.ownBlock c ∧ Avoid (some bo) c ∧ Avoid (some rb) c
  box : wr.heap[bo]? = some (.cells (boxC s v) 33 (0, 0))
  low : w.heap.size ≤ bo
  ne : v.ownBlock ≠ some bo
  res : wr.heap[rb]? = some (.cells (#[.int .i64 0, .int .i64 0, .slice none 0 0, .slice none 0 0, .slice none 0 0]) 33 (0, 0))
  rne : rb ≠ bo
  rnv : v.ownBlock ≠ some rb
theorem CI.gw {W0 w wr : World} {s : PS} {rb bo : Nat} {v : Value} {cs : List PT} (h : CI W0 w wr s rb bo v cs) (p : Regrown) : CI W0 w (gw wr p) s rb bo v cs :=
  ⟨below_gw h.below h.below.size p, own_gw h.own p, fun c hc => ⟨(h.lies c hc).1.gw p, (h.lies c hc).2⟩, by rw [gw_heap _ _ _ (Array.getElem?_eq_some_iff.1 h.box).1]; exact h.box, h.low, h.ne, by rw [gw_heap _ _ _ (Array.getElem?_eq_some_iff.1 h.res).1]; exact h.res, h.rne, h.rnv⟩
theorem CI.below' {W0 w wr w' : World} {s : PS} {rb bo : Nat} {v : Value} {cs : List PT} (h : CI W0 w wr s rb bo v cs) (hb : Below wr.heap.size wr w') : CI W0 w w' s rb bo v cs := by
  obtain ⟨p, rfl⟩ := gw_of_below hb
  exact h.gw p
theorem CI.app' {W0 w wr w3 w5 : World} {s : PS} {rb bo : Nat} {v v' : Value} {cs : List PT} {c : PT} (h : CI W0 w wr s rb bo v cs) (hb : Below wr.heap.size wr w3) (hc : Lies W0 w3 c) (hf : Fresh w.heap.size c) (ha1 : Avoid v.ownBlock c) (ha2 : Avoid (some bo) c) (ha3 : Avoid (some rb) c)
    (hown : w5.ownsRow w.heap.size 33 5 v' (cs.length + 1) (cs.flatMap trC ++ trC c)) (hg : w3.grownBy w5 v.ownBlock) (hat : v'.ownBlock = v.ownBlock ∨ v'.ownBlock = some w3.heap.size) :
    CI W0 w (w5.setCell ⟨bo, 4, none⟩ v') s rb bo v' (cs ++ [c]) := by
  obtain ⟨p, rfl⟩ := gw_of_below hb
  have h3 := h.gw p
  have hbo := (Array.getElem?_eq_some_iff.1 h3.box).1
  have hbo' := (Array.getElem?_eq_some_iff.1 h.box).1
  have hv : ∀ g, v.ownBlock = some g → g < wr.heap.size := fun g e => (h.own.lt g e).2
  have hc2 : ∀ x ∈ cs ++ [c], Lies W0 (Go.Proofs.Ytmgiojkdcpolfaa.gw wr p) x ∧ Fresh w.heap.size x ∧ Avoid v.ownBlock x ∧ Avoid (some bo) x ∧ Avoid (some rb) x := by
    intro x hx
    rcases List.mem_append.1 hx with hx | hx
    · exact h3.lies x hx
    · rw [List.mem_singleton.1 hx]
      exact ⟨hc, hf, ha1, ha2, ha3⟩
  have hne' : v'.ownBlock ≠ some bo := by
    rcases hat with e | e
    · rw [e]; exact h.ne
    · rw [e]; intro e'; cases e'; omega
  have hrb := (Array.getElem?_eq_some_iff.1 h3.res).1
  have hrb' := (Array.getElem?_eq_some_iff.1 h.res).1
  have hrv' : v'.ownBlock ≠ some rb := by
    rcases hat with e | e
    · rw [e]; exact h.rnv
    · rw [e]; intro e'; cases e'; omega
  have hgs := grown_set w5 ⟨bo, 4, none⟩ v'
  have hb5 : w5.heap[bo]? = some (.cells (boxC s v) 33 (0, 0)) := (hg.block bo hbo (fun e => h.ne e.symm)).trans h3.box
  have hB5 : Below w.heap.size w w5 := below_grown h3.below hg h3.below.size (fun k hk => (h.own.lt k hk).1)
  refine ⟨below_grown hB5 hgs hB5.size (fun k hk => by cases hk; exact h.low), ?_, fun x hx => ?_, ?_, h.low, hne', (hgs.block rb (Nat.lt_of_lt_of_le hrb hg.size) (fun e => h.rne (by cases e; rfl))).trans ((hg.block rb hrb (fun e => h.rnv e.symm)).trans h3.res), h.rne, hrv'⟩
  · rw [List.length_append, List.flatMap_append]
    refine own_of_block (w := w5) (by simpa using hown) fun g hg' => ?_
    refine hgs.block g (hown.lt g hg').2 (fun e => ?_)
    cases e
    exact hne' hg'
  · obtain ⟨l1, l2, l3, l4, l5⟩ := hc2 x hx
    have hl5 := l1.grown hg l3
    refine ⟨hl5.grown hgs l4, l2, ?_, l4, l5⟩
    rcases hat with e | e
    · rw [e]; exact l3
    · rw [e]; exact Avoid.of_lies l1 (Nat.le_refl _)
  · simp [World.setCell, Array.getElem?_modify, hb5, boxC]

theorem CI.app {W0 w wr w3 w5 : World} {s : PS} {rb bo : Nat} {v v' : Value} {cs : List PT} {c : PT} (h : CI W0 w wr s rb bo v cs) (hb : Below wr.heap.size wr w3) (hc : Lies W0 w3 c) (hf : Fresh wr.heap.size c)
    (hown : w5.ownsRow w.heap.size 33 5 v' (cs.length + 1) (cs.flatMap trC ++ trC c)) (hg : w3.grownBy w5 v.ownBlock) (hat : v'.ownBlock = v.ownBlock ∨ v'.ownBlock = some w3.heap.size) :
    CI W0 w (w5.setCell ⟨bo, 4, none⟩ v') s rb bo v' (cs ++ [c]) := by
  refine h.app' hb hc (hf.mono h.below.size) ?_ (Avoid.of_fresh hf (Array.getElem?_eq_some_iff.1 h.box).1) (Avoid.of_fresh hf (Array.getElem?_eq_some_iff.1 h.res).1) hown hg hat
  cases e : v.ownBlock with
  | none => exact Avoid.none' _
  | some g => exact Avoid.of_fresh hf (h.own.lt g e).2

/-- What clone gives. -/
def ClonePost (W0 : World) (t : PT) (w : World) (e : Ending) (w' : World) : Prop := ∃ t' p, e = .returned (trV t') ∧ w' = gw w p ∧ sh t' = sh t ∧ t'.s = t.s ∧ Lies W0 w' t' ∧ Fresh w.heap.size t' ∧
  w'.ownsRow w.heap.size 33 5 (.slice t'.ad t'.ks.length t'.cap) t'.ks.length (t'.ks.flatMap trC) ∧ (∀ k ∈ t'.ks, Avoid (Value.slice t'.ad t'.ks.length t'.cap).ownBlock k)

theorem CI.fin {W0 w wr wF : World} {s : PS} {rb bo vc : Nat} {vd : Option Addr} {cs : List PT} (h : CI W0 w wr s rb bo (.slice vd cs.length vc) cs) (hrd : Rd W0 s) (hlow : w.heap.size ≤ rb) (hg : wr.grownBy wF (some rb)) :
    ∃ p, wF = Go.Proofs.Ytmgiojkdcpolfaa.gw w p ∧ Lies W0 wF (.mk s vd vc cs) ∧ Fresh w.heap.size (.mk s vd vc cs) ∧ wF.ownsRow w.heap.size 33 5 (.slice vd cs.length vc) cs.length (cs.flatMap trC) ∧ (∀ k ∈ cs, Avoid (Value.slice vd cs.length vc).ownBlock k) := by
  have hB := below_grown h.below hg h.below.size (fun k hk => by cases hk; exact hlow)
  obtain ⟨p, hp⟩ := gw_of_below hB
  have hown : wF.ownsRow w.heap.size 33 5 (.slice vd cs.length vc) cs.length (cs.flatMap trC) := own_of_block h.own fun g hgg => hg.block g (h.own.lt g hgg).2 (fun e => h.rnv (by rw [hgg, e]))
  have hl : ∀ c ∈ cs, Lies W0 wF c := fun c hc => (h.lies c hc).1.grown hg (h.lies c hc).2.2.2.2
  exact ⟨p, hp, Lies.mk' hrd (row_own trC_len hown rfl) (fun a ha => (own_old hown a ha).1) hl, Fresh.mk' (fun a ha => (own_old hown a ha).2) (fun c hc => (h.lies c hc).2.1), hown, fun c hc => (h.lies c hc).2.2.1⟩
theorem CI.post {W0 w wr wF : World} {s : PS} {rb bo cap vc : Nat} {vd ad : Option Addr} {cs ks : List PT} (h : CI W0 w wr s rb bo (.slice vd cs.length vc) cs) (hrd : Rd W0 s) (hlow : w.heap.size ≤ rb) (hg : wr.grownBy wF (some rb)) (hsh : cs.map sh = ks.map sh) :
    ClonePost W0 (.mk s ad cap ks) w (.returned (trV (.mk s vd vc cs))) wF := by
  obtain ⟨p, h1, h2, h3, h4, h5⟩ := h.fin hrd hlow hg
  exact ⟨_, p, rfl, h1, by simp [sh_eq, PT.s, PT.ks, hsh], rfl, h2, h3, h4, h5⟩

set_option maxRecDepth 100000 in
set_option maxHeartbeats 4000000 in
theorem cloneT_any (W0 : World) : ∀ (m : Nat) (t : PT) (w : World), (nodes t).length ≤ m → m ≤ 1000 → Lies W0 w t → Calls Try.prog 48 #[trV t] w (ClonePost W0 t w)
  | 0, t, w, h, _, _ => by have := nodes_pos t; omega
  | m + 1, t, w, hm, hmm, hL => by
    obtain ⟨s, ad, cap, ks⟩ := t
    have IH := Lib.hid (cloneT_any W0 m)
    obtain ⟨i0, z0, HI⟩ := tree_info
    have HL := Lib.hid hL
    have hkl := kids_less (.mk s ad cap ks)
    have HM := Lib.hid hm
    simp only [PT.ks] at hkl
    have hkb : ks.length ≤ 1000 := by omega
    clear hL hm hkl
    simp only [trV, PT.s, PT.ad, PT.cap, PT.ks]
    go_enter Try.func48, Try.ntmps48
    go_wp2
    have h0 : CI W0 w (((w.alloc (.cells (boxC s (.slice ad ks.length cap)) 33)).alloc (.cells #[.int .i64 0, .int .i64 0, .slice none 0 0, .slice none 0 0, .slice none 0 0] 33)).alloc (.cells (boxC s (.slice none 0 0)) 33)) s (w.heap.size + 1) (w.heap.size + 1 + 1) (.slice none 0 0) [] :=
      ⟨(by repeat (first | exact Below.refl _ _ | refine below_gw ?_ (by simp; try omega) _ | refine Below.alloc ?_ (by simp; try omega) _ | refine Below.setCell ?_ (by simp; try omega) _ | refine Below.drew ?_)), World.ownsRow_nil _ _ _ _, (fun _ h => absurd h (by simp)), heap_alloc_at' _ _ _ (by simp), by omega, (by simp [Value.ownBlock]), (by rw [heap_alloc_past' _ _ _ (by simp [Old])]; exact heap_alloc_at' _ _ _ (by simp)), by omega, (by simp [Value.ownBlock])⟩
    have H0 := Lib.hid h0
    clear h0
    go_loopw [12] (fun i wr => ∃ (k : Nat) (v : Value) (cs : List PT), k ≤ ks.length ∧ i = .int .i64 k ∧ Hid (CI W0 w wr s (w.heap.size + 1) (w.heap.size + 1 + 1) v cs) ∧ Hid (cs.map sh = (ks.take k).map sh)) (fun i _ => ks.length - (intOf i).toNat)
    case atStart => exact ⟨0, _, [], by omega, rfl, H0, Lib.hid (by simp)⟩
    case round =>
      clear H0
      obtain ⟨k, v, cs, hk, rfl, hci, hcs⟩ := hrel
      obtain ⟨vd, vc, rfl, _, _⟩ := own_val hci.out.own
      by_cases hlt : k < ks.length
      · have kb : (k : Int) < ks.length := by omega
        obtain ⟨x, hx⟩ := get_some hlt
        obtain ⟨b, off, he, ho, hc⟩ := (HL.out.below hci.out.below).self.row.get hx
        simp only [PT.ad] at he
        subst he
        have f0 := hc 0 (by omega)
        have f1 := hc 1 (by omega)
        have f2 := hc 2 (by omega)
        have f3 := hc 3 (by omega)
        have f4 := hc 4 (by omega)
        simp at f0 f1 f2 f3 f4
        have HX := Lib.hid hx
        clear hx hc
        have hbx := (row_cells hci.out.box 4).trans (show _ = some (.slice vd cs.length vc) from rfl)
        have obx : Old (w.heap.size + 1 + 1) wr := Old.of_cell hbx
        go_wp2
        obtain ⟨X, hX⟩ : ∃ X, X = wr.alloc (.cells (trC x).toArray 33) := ⟨_, rfl⟩
        rw [← hX]
        have HXB := Lib.hid (show Below wr.heap.size wr X by rw [hX]; exact (by repeat (first | exact Below.refl _ _ | refine below_gw ?_ (by simp; try omega) _ | refine Below.alloc ?_ (by simp; try omega) _ | refine Below.setCell ?_ (by simp; try omega) _ | refine Below.drew ?_)))
        have hrow := show X.heap[wr.heap.size]? = some (.cells (trC x).toArray 33 (0, 0)) by rw [hX]; exact heap_alloc_at' _ _ _ rfl
        clear hX
        have x0 := (row_cells hrow 0).trans (show _ = some (.int .i64 x.s.g) from rfl)
        have x1 := (row_cells hrow 1).trans (show _ = some (.int .i64 x.s.c) from rfl)
        have x2 := (row_cells hrow 2).trans (show _ = some (.slice x.s.ga x.s.gs.length x.s.gc) from rfl)
        have x3 := (row_cells hrow 3).trans (show _ = some (.slice x.s.ta x.s.ts.length x.s.tc) from rfl)
        have x4 := (row_cells hrow 4).trans (show _ = some (.slice x.ad x.ks.length x.cap) from rfl)
        have hb4 := (HXB.out.cell (p := ⟨w.heap.size + 1 + 1, 4, none⟩) obx).trans hbx
        have o1 : Old wr.heap.size X := Old.of_cell x0
        have o2 : Old (w.heap.size + 1 + 1) X := Old.of_cell hb4
        have HRX := Lib.hid hrow
        clear hrow hbx f0 f1 f2 f3 f4
        have HC := Lib.hid (fun q => IH.out x (gw X.drew q) (by have := kid_less (t := .mk s (some ⟨b, off, none⟩) cap ks) (List.mem_of_getElem? HX.out); have := HM.out; omega) (by omega) (((((HL.out.below hci.out.below).kid (List.mem_of_getElem? HX.out)).below HXB.out).gw ⟨X.drawn + 1, #[]⟩).gw q))
        have HCX := Lib.hid (hci.out.below' HXB.out)
        have hnk : (Value.slice vd cs.length vc).ownBlock ≠ some wr.heap.size := fun e => by have := (hci.out.own.lt _ e).2; omega
        have HNK := Lib.hid hnk
        clear hnk
        have hle : cs.length = k := by have := congrArg List.length hcs.out; simp at this; omega
        have HLE := Lib.hid hle
        clear hle
        clear x0 x1 x2 x3 x4
        have hKx := (row_cells HRX.out)
        refine wp_region_relP 5 [16, 17, 18, 19, 20] [fun _ v => v = .pointer (some ⟨w.heap.size + 1 + 1, 4, none⟩), fun _ v => v = .slice vd cs.length vc, fun _ v => v = trV x, fun w' v => ∃ c, v = trV c ∧ sh c = sh x ∧ Lies W0 w' c ∧ Fresh wr.heap.size c,
          fun w' v => ∃ c g, v = .slice (some ⟨g, 0, none⟩) 1 1 ∧ w'.heap[g]? = some (.cells (trC c).toArray 33 (0, 0)) ∧ sh c = sh x ∧ Lies W0 w' c ∧ Fresh wr.heap.size c] (by kernel_rfl) (by kernel_rfl) rfl rfl (by simp only [List.drop_succ_cons, List.drop_zero]; rfl) (by decide) rfl (by kernel_rfl) ?_ ?_ ?_
        · refine ⟨fun _ _ _ h => h, fun _ _ _ h => h, fun _ _ _ h => h, ?_, ?_, trivial⟩
          · rintro v w' q ⟨c, h1, h2, h3, h4⟩
            exact ⟨c, h1, h2, h3.gw q, h4⟩
          · rintro v w' q ⟨c, g, h1, h5, h2, h3, h4⟩
            exact ⟨c, g, h1, (gw_heap _ _ _ (Array.getElem?_eq_some_iff.1 h5).1).trans h5, h2, h3.gw q, h4⟩
        · refine ⟨?_, ?_, ?_, ?_, ?_, trivial⟩
          · refine relAt_seen [3] rfl rfl rfl fun b q hs => ?_
            simp [allSeen, FofL, slot] at hs
            simp [execOp, relUpon, FofL, go_sem, gw_ex_self, hs]
          · refine relAt_seen [16] rfl rfl rfl fun b q hs => ?_
            simp [allSeen, FofL, slot] at hs
            simp [execOp, relUpon, FofL, go_sem, gw_ex_self, hs, o2, hb4]
          · refine relAt_seen [5] rfl rfl rfl fun b q hs => ?_
            simp [allSeen, FofL, slot] at hs
            have c0 := (gw_cell X.drew q wr.heap.size 0 o1).trans (hKx 0)
            have c1 := (gw_cell X.drew q wr.heap.size 1 o1).trans (hKx 1)
            have c2 := (gw_cell X.drew q wr.heap.size 2 o1).trans (hKx 2)
            have c3 := (gw_cell X.drew q wr.heap.size 3 o1).trans (hKx 3)
            have c4 := (gw_cell X.drew q wr.heap.size 4 o1).trans (hKx 4)
            simp at c0 c1 c2 c3 c4
            simp [execOp, relUpon, FofL, go_sem, gw_ex_self, hs, c0, c1, c2, c3, c4]
          · refine relAt_seen [18] rfl rfl rfl fun b q hs => ?_
            simp [allSeen, FofL, slot] at hs
            simp only [execOp, relUpon, resolve, invoke, Sem.run_bind, List.map_toArray, List.map_cons, List.map_nil, Act.eval, Array.getD_eq_getD_getElem?, hs]
            simp [go_sem]
            refine (HC.out q).mono ?_
            rintro e w' ⟨c, p, rfl, rfl, hsh, hss, hl, hf, _, _⟩
            refine ⟨_, rfl, ?_, p, rfl⟩
            simp only [FofL, Nat.reduceEqDiff, if_true, if_false]
            exact ⟨c, rfl, hsh, hl, hf.mono (by have := HXB.out.size; simp; omega)⟩
          · refine relAt_seen [19] rfl rfl rfl fun b q hs => ?_
            simp [allSeen, FofL, slot] at hs
            obtain ⟨c, h19, hsh, hl, hf⟩ := hs
            simp [execOp, relUpon, go_sem, gw_ex_alloc, h19]
            simp only [FofL, Nat.reduceEqDiff, if_true, if_false]
            refine ⟨c, _, rfl, heap_alloc_at' _ _ _ (by simp), hsh, hl.below ((Below.refl _ _).alloc (Nat.le_refl _) _), hf⟩
        · intro vs p hlen hv
          match vs, hlen with
          | [v16, v17, v18, v19, v20], _ =>
            obtain ⟨h16, h17, h18, ⟨c19, h19, _⟩, ⟨c, g, h20, hg, hsh, hl, hf⟩, _⟩ := hv
            subst h16 h17 h18 h19 h20
            simp only [putL, Act.put]
            have HSH := Lib.hid hsh
            clear hsh
            have hXw : Below wr.heap.size wr (gw X.drew p) := HXB.out.trans ((((Below.refl _ X).drew).trans (gw_below X.drew p)).mono HXB.out.size)
            refine wpList_append_row (f := trC) rfl _ _ 31 rfl w.heap.size 33 i0 z0 5 88 rfl HI.out.1 HI.out.2.1 HI.out.2.2.1 HI.out.2.2.2.1 HI.out.2.2.2.2 (by omega) trC_len trC_one (.slice vd cs.length vc) cs.length (cs.flatMap trC) rfl (own_gw (w := X.drew) HCX.out.own p) (some ⟨g, 0, none⟩) 1 [c] (fun h => by cases h) rfl (Row.of_block trC_len hg (by simp)) (by have := HLE.out; unfold maxLen; simp; omega) (by have := HLE.out; simp; omega) (by have := HCX.out.below.size; simp; omega) ?_
            intro v' w5 hown hgrow hat
            obtain ⟨vd', vc', rfl, _, _⟩ := own_val hown
            have hb3 : (gw X.drew p).heap[w.heap.size + 1 + 1]? = some (.cells (boxC s (.slice vd cs.length vc)) 33 (0, 0)) := (gw_heap _ _ _ o2).trans HCX.out.box
            have hb5 := (hgrow.block _ (Array.getElem?_eq_some_iff.1 hb3).1 (fun e => HCX.out.ne e.symm)).trans hb3
            have c0 := (row_cells hb5 4).trans (show _ = some (Value.slice vd cs.length vc) from rfl)
            have z0' : w5.frozen? ⟨w.heap.size + 1 + 1, 4, none⟩ = false := by simp [World.frozen?, hb5]
            have HN := Lib.hid (hci.out.app hXw hl hf (by simpa using hown) hgrow hat)
            clear hown hgrow hat hb3 hb5 hg hl hf hXw
            go_step
            go_step
            go_step
            go_step
            go_step
            go_wp2
            go_roundw
            case rel => exact ⟨k + 1, _, cs ++ [c], by omega, by go_num, HN, Lib.hid (by rw [List.map_append, hcs.out, List.map_singleton, HSH.out, List.take_succ_eq_append_getElem hlt, List.map_append, List.map_singleton, (List.getElem?_eq_some_iff.1 HX.out).2])⟩
            case measure => simp [intOf]; omega
      · have hbc := row_cells hci.out.box
        have hrc := row_cells hci.out.res
        have hbf : ∀ i, wr.frozen? ⟨w.heap.size + 1, i, none⟩ = false := fun i => by simp [World.frozen?, hci.out.res]
        have c0 := (hbc 0).trans (show _ = some (.int .i64 s.g) from rfl)
        have c1 := (hbc 1).trans (show _ = some (.int .i64 s.c) from rfl)
        have c2 := (hbc 2).trans (show _ = some (.slice s.ga s.gs.length s.gc) from rfl)
        have c3 := (hbc 3).trans (show _ = some (.slice s.ta s.ts.length s.tc) from rfl)
        have c4 := (hbc 4).trans (show _ = some (.slice vd cs.length vc) from rfl)
        have r0 := (hrc 0).trans (show _ = some (.int .i64 0) from rfl)
        have r1 := (hrc 1).trans (show _ = some (.int .i64 0) from rfl)
        have r2 := (hrc 2).trans (show _ = some (.slice none 0 0) from rfl)
        have r3 := (hrc 3).trans (show _ = some (.slice none 0 0) from rfl)
        have r4 := (hrc 4).trans (show _ = some (.slice none 0 0) from rfl)
        clear hbc hrc
        go_wp2
        have hfin := Lib.hid (hci.out.post (ad := ad) (cap := cap) (ks := ks) HL.out.self.rd (by omega) (World.grownBy.trans (World.grownBy.trans (World.grownBy.trans (World.grownBy.trans (grown_set wr ⟨w.heap.size + 1, 0, none⟩ (.int .i64 s.g)) (grown_set _ ⟨w.heap.size + 1, 1, none⟩ (.int .i64 s.c))) (grown_set _ ⟨w.heap.size + 1, 2, none⟩ (.slice s.ga s.gs.length s.gc))) (grown_set _ ⟨w.heap.size + 1, 3, none⟩ (.slice s.ta s.ts.length s.tc))) (grown_set _ ⟨w.heap.size + 1, 4, none⟩ (.slice vd cs.length vc))) (by rw [hcs.out, List.take_of_length_le (by omega)]))
        refine bodyPost_ret (v := trV (.mk s vd vc cs)) ?_ rfl hfin.out
        simp [results, Try.results48, go_sem, r0, r1, r2, r3, r4, PT.s, PT.ad, PT.ks, PT.cap]

end Go.Proofs.Ytmgiojkdcpolfaa
