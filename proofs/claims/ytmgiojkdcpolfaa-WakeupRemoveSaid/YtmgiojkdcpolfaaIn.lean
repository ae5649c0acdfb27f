/- initial; slices.Grow, Concat and Clone at steps. -/
import Derived.Test.YtmgiojkdcpolfaaIx
namespace Go.Proofs.Ytmgiojkdcpolfaa
open Go.RowKit Go.Sort

def iniB (l : List PS) (i : Nat) (y : PS) : Bool := !(l.take i).any (fun s => dep s y)

theorem initialP_any (ad : Option Addr) (l : List PS) (cap i : Nat) (y : PS) (w : World) (hS : Sts w ad l) (hcap : l.length ≤ cap) (hb : l.length ≤ 1000) (hy : l[i]? = some y) :
    Calls Try.prog 41 #[.slice ad l.length cap, .int .i64 i] w (Gives (.bool (iniB l i y)) w) := by
  have hlt := (List.getElem?_eq_some_iff.1 hy).1
  obtain ⟨X, hX⟩ : ∃ X, X = (w.alloc (.cells #[.slice ad l.length cap] 41)).alloc (.cells #[.int .i64 (i : Int)] 3) := ⟨_, rfl⟩
  have HB := Lib.hid (show Below w.heap.size w X by rw [hX]; exact (by repeat (first | exact Below.refl _ _ | refine below_gw ?_ (by simp; try omega) _ | refine Below.alloc ?_ (by simp; try omega) _ | refine Below.setCell ?_ (by simp; try omega) _ | refine Below.drew ?_)))
  have x0 : X.cell? ⟨w.heap.size, 0, none⟩ = some (.slice ad l.length cap) := by rw [hX]; simp [go_sem]
  have x1 : X.cell? ⟨w.heap.size + 1, 0, none⟩ = some (.int .i64 (i : Int)) := by rw [hX]; simp [go_sem]
  have HS := Lib.hid (hS.below HB.out)
  have o0 : Old w.heap.size X := Old.of_cell x0
  have o1 : Old (w.heap.size + 1) X := Old.of_cell x1
  have hL : (l.take i).length = i := by simp; omega
  have HC := Lib.hid (cl65_con ad (l.take i) cap w.heap.size (w.heap.size + 1) (fun s => dep s y) X (HS.out.take i) (by omega) (fun p hp r => cl65_any p y ad l cap i w.heap.size (w.heap.size + 1) _ ((gw_cell _ _ _ _ o0).trans x0) ((gw_cell _ _ _ _ o1).trans x1) ((HS.out.rd p (List.mem_of_mem_take hp)).gw r) hy (HS.out.gw r)))
  rw [hL] at HC
  clear hS hL hy
  go_enter Try.func41, Try.ntmps41
  go_wp2_with (go_at_call 43; refine Stop.here ?_)
  rw [← hX]
  clear hX
  refine Stop.on ?_
  refine HC.out.mono ?_
  rintro e w1 ⟨rfl, p1, rfl⟩
  go_wp2
  have he := Lib.hid (show (!(l.take i).any (fun s => dep s y)) = iniB l i y from rfl)
  go_ret; exact Gives.mk (by rw [he.out]; rfl) (by have hb' := HB.out; have hs' := HB.out.size; repeat (first | exact hb' | refine below_gw ?_ (by first | (simp; done) | (simp; omega) | omega) _ | refine Below.alloc ?_ (by first | (simp; done) | (simp; omega) | omega) _ | refine Below.setCell ?_ (by first | (simp; done) | (simp; omega) | omega) | refine Below.drew ?_))

set_option maxHeartbeats 1000000 in
theorem initialR_any (ad : Option Addr) (l : List PS) (cap i : Nat) (y : PS) (w : World) (hS : Sts w ad l) (hb : l.length ≤ 1000) (hy : l[i]? = some y) :
    Calls Try.prog 47 #[.slice ad l.length cap, .int .i64 i] w (Gives (.bool (iniB l i y)) w) := by
  have HS := Lib.hid hS
  have HY := Lib.hid hy
  have hlt := (List.getElem?_eq_some_iff.1 hy).1
  have ib : (i : Int) < l.length := by omega
  obtain ⟨b, off, rfl, ho, hc⟩ := hS.row.get hy
  have g0 := hc 0 (by omega)
  have g1 := hc 1 (by omega)
  have g2 := hc 2 (by omega)
  have g3 := hc 3 (by omega)
  simp at g0 g1 g2 g3
  clear hS hy hc
  go_enter Try.func47, Try.ntmps47
  go_wp2
  go_loopw [5] (fun j wr => ∃ k : Nat, ∃ r, k ≤ i ∧ j = .int .i64 k ∧ Hid ((l.take k).any (fun s => dep s y) = false) ∧ wr = gw w r) (fun j _ => i - (intOf j).toNat)
  case atStart => exact ⟨0, _, by omega, rfl, Lib.hid rfl, gw_self _⟩
  case round =>
    obtain ⟨k, r, hk, rfl, hf, rfl⟩ := hrel
    by_cases hlt' : k < i
    · have kb : (k : Int) < l.length := by omega
      have kb' : (k : Int) < i := by omega
      obtain ⟨x, hx⟩ := get_some (show k < l.length by omega)
      obtain ⟨b', off', e, ho', hc⟩ := HS.out.row.get hx
      cases e
      have f0 := hc 0 (by omega)
      have f1 := hc 1 (by omega)
      have f2 := hc 2 (by omega)
      have f3 := hc 3 (by omega)
      simp at f0 f1 f2 f3
      have HX := Lib.hid hx
      clear hx hc
      have hd := dependR_any x y
      obtain ⟨d, he⟩ : ∃ d, dep x y = d := ⟨_, rfl⟩
      rw [he] at hd
      have HD := Lib.hid hd
      have HE := Lib.hid he
      clear hd he
      cases d
      · go_wp2
        refine wp_region_gw (by kernel_rfl) (by kernel_rfl) ?_
        repeat (quiet_step (first | (go_at_call 18; exact Gives.call (HD.out _ (((HS.out.gw r).at HX.out).gw _) (((HS.out.gw r).at HY.out).gw _)))))
        refine wpQuiet_nil ?_
        intro _ hw'
        obtain ⟨p1, hw''⟩ := hw'
        subst hw''
        go_wp2
        go_roundw
        case rel =>
          obtain ⟨r', hr'⟩ := back_gw w r p1
          exact ⟨k + 1, r', by omega, by go_num, Lib.hid (by rw [any_take _ HX.out, hf.out, HE.out]; rfl), hr'⟩
        case measure => simp [intOf]; omega
      · have he := Lib.hid (show false = iniB l i y by
          rw [iniB, any_at (fun s => dep s y) (k := k) (x := x) (by rw [List.getElem?_take, if_pos hlt']; exact HX.out) HE.out]; rfl)
        go_wp2
        refine wp_region_gw (by kernel_rfl) (by kernel_rfl) ?_
        repeat (quiet_step (first | (go_at_call 18; exact Gives.call (HD.out _ (((HS.out.gw r).at HX.out).gw _) (((HS.out.gw r).at HY.out).gw _)))))
        refine wpQuiet_nil ?_
        intro _ hw'
        obtain ⟨p1, hw''⟩ := hw'
        subst hw''
        go_wp2
        have HB := Lib.hid (gw_below w r)
        go_ret; exact Gives.mk (by rw [he.out]; rfl) (by have hb' := HB.out; have hs' := HB.out.size; repeat (first | exact hb' | refine below_gw ?_ (by first | (simp; done) | (simp; omega) | omega) _ | refine Below.alloc ?_ (by first | (simp; done) | (simp; omega) | omega) _ | refine Below.setCell ?_ (by first | (simp; done) | (simp; omega) | omega) | refine Below.drew ?_))
    · obtain rfl : k = i := by omega
      have he := Lib.hid (show true = iniB l k y by rw [iniB, hf.out]; rfl)
      clear hf
      go_wp2
      have HB := Lib.hid (gw_below w r)
      go_ret; exact Gives.mk (by rw [he.out]; rfl) (by have hb' := HB.out; have hs' := HB.out.size; repeat (first | exact hb' | refine below_gw ?_ (by first | (simp; done) | (simp; omega) | omega) _ | refine Below.alloc ?_ (by first | (simp; done) | (simp; omega) | omega) _ | refine Below.setCell ?_ (by first | (simp; done) | (simp; omega) | omega) | refine Below.drew ?_))

/-- A row of one's own comes back. -/
def GivesO {α : Type} (T : TypeId) (n : Nat) (f : α → List Value) (l : List α) (w : World) (e : Ending) (w' : World) : Prop := ∃ v, e = .returned v ∧ w'.ownsRow w.heap.size T n v l.length (l.flatMap f) ∧ Below w.heap.size w w'

set_option maxRecDepth 100000 in
theorem grow_any (m : Nat) (w : World) (hm : m ≤ 1000) : Calls Try.prog 66 #[.slice none 0 0, .int .i64 m] w (GivesO 30 4 stC [] w) := by
  obtain ⟨i0, z0, HI⟩ := step_info
  by_cases h0 : m = 0
  · subst h0
    go_enter Try.func66, Try.ntmps66
    go_wp2
    go_ret
    exact ⟨_, rfl, World.ownsRow_nil _ _ _ _, Below.refl _ _⟩
  · obtain ⟨G, hG⟩ : ∃ G, G = grownCap w m 0 30 := ⟨_, rfl⟩
    have hGn : m ≤ G := by rw [hG]; exact grownCap_ge w _ _ _
    have hGm : G ≤ maxLen := by rw [hG]; exact grownCap_le_maxLen w _ _ _ (by unfold maxLen; omega)
    have hrz : ∀ ty, (Builtin.append_ #[41, 3] ty #[.slice none 0 0, .int .i64 (m : Int)]).run Try.prog w =
      .ok (.slice (some ⟨w.heap.size, 0, none⟩) m G) (w.drew.alloc (.cells ((#[] : Array Value) ++ Builtin.zeroCells z0.cells m ++ Builtin.zeroCells z0.cells (G - m)) 30)) := fun ty => by
      have h := Lib.run_append_grow_zeros (P := Try.prog) w 41 3 ty 30 i0 z0 .i64 .i64 rfl rfl HI.out.1 HI.out.2.1 none 0 0 [] (run_firstCells_none w.drew i0.size 0 0 0) m (by omega) (by rw [HI.out.2.2.1]; omega) (by omega) (by omega)
        (by rw [HI.out.2.2.2.1]; omega) (growslice_fits (by omega) (by rw [HI.out.2.2.2.1]; omega))
      rw [Nat.zero_add, ← hG] at h
      exact h
    obtain ⟨C, hC⟩ : ∃ C, C = (#[] : Array Value) ++ Builtin.zeroCells z0.cells m ++ Builtin.zeroCells z0.cells (G - m) := ⟨_, rfl⟩
    have hCs : C.size = G * 4 := by
      have hz : ∀ k, (Builtin.zeroCells z0.cells k).size = k * 4 := fun k => by rw [size_zeroCells, HI.out.2.2.2.2]
      rw [hC]; simp [hz]; omega
    rw [← hC] at hrz
    clear hC
    have HR := Lib.hid hrz
    have HS := Lib.hid hCs
    have HM := Lib.hid hGm
    have hm0 : (0 : Int) < m := by omega
    have hG63 : G ≤ 9223372036854775807 := by unfold maxLen at hGm; omega
    clear hrz hG hGm hCs
    go_enter Try.func66, Try.ntmps66
    go_wp2_with (at_builtin; refine Lib.wpList_append_run _ rfl _ _ _ _ rfl _ _ rfl rfl _ _ (HR.out _) ?_)
    go_ret
    exact ⟨_, rfl, World.ownsRow_made w C G (Nat.le_refl _) HM.out HS.out, (by repeat (first | exact Below.refl _ _ | refine below_gw ?_ (by simp; try omega) _ | refine Below.alloc ?_ (by simp; try omega) _ | refine Below.setCell ?_ (by simp; try omega) _ | refine Below.drew ?_))⟩

/-- The row that is being built. -/
structure Outs (T : TypeId) (n : Nat) {α : Type} (f : α → List Value) (w wr : World) (v : Value) (out : List α) : Prop where
  below : Below w.heap.size w wr
  own : wr.ownsRow w.heap.size T n v out.length (out.flatMap f)
theorem Outs.app {T : TypeId} {n : Nat} {α : Type} {f : α → List Value} {w wr w5 : World} {v v' : Value} {out l : List α} (h : Outs T n f w wr v out) (hown : w5.ownsRow w.heap.size T n v' (out.length + l.length) (out.flatMap f ++ l.flatMap f)) (hg : wr.grownBy w5 v.ownBlock) : Outs T n f w w5 v' (out ++ l) := by
  refine ⟨below_grown h.below hg h.below.size (fun k hk => (h.own.lt k hk).1), ?_⟩
  rw [List.length_append, List.flatMap_append]
  exact hown
theorem Outs.gw {T : TypeId} {n : Nat} {α : Type} {f : α → List Value} {w wr : World} {v : Value} {out : List α} (h : Outs T n f w wr v out) (p : Regrown) : Outs T n f w (gw wr p) v out :=
  ⟨below_gw h.below h.below.size p, own_gw h.own p⟩
theorem Outs.gives {T : TypeId} {n : Nat} {α : Type} {f : α → List Value} {w wr : World} {v : Value} {out : List α} (h : Outs T n f w wr v out) : GivesO T n f out w (.returned v) wr := ⟨v, rfl, h.own, h.below⟩

set_option maxRecDepth 100000 in
set_option maxHeartbeats 1000000 in
theorem concat_any (a1 a2 : Option Addr) (l1 l2 : List PS) (c1 c2 bs : Nat) (w : World) (hb0 : w.cell? ⟨bs, 0, none⟩ = some (.slice a1 l1.length c1)) (hb1 : w.cell? ⟨bs, 1, none⟩ = some (.slice a2 l2.length c2))
    (h1 : Sts w a1 l1) (h2 : Sts w a2 l2) (n1 : a1 = none → c1 = 0) (n2 : a2 = none → c2 = 0) (hb : l1.length + l2.length ≤ 1000) :
    Calls Try.prog 42 #[.slice (some ⟨bs, 0, none⟩) 2 2] w (GivesO 30 4 stC (l1 ++ l2) w) := by
  obtain ⟨i0, z0, HI⟩ := step_info
  have H1 := Lib.hid h1
  have H2 := Lib.hid h2
  have N1 := Lib.hid n1
  have N2 := Lib.hid n2
  have ob : Old bs w := Old.of_cell hb0
  clear h1 h2 n1 n2
  go_enter Try.func42, Try.ntmps42
  go_wp2
  go_loopw [3, 11] (fun s i wr => (i = .int .i64 0 ∧ s = .int .i64 0 ∧ w = wr) ∨ (i = .int .i64 1 ∧ s = .int .i64 l1.length ∧ w = wr) ∨ (i = .int .i64 2 ∧ s = .int .i64 (l1.length + l2.length : Nat) ∧ w = wr)) (fun _ i _ => 2 - (intOf i).toNat)
  case atStart => exact .inl ⟨rfl, rfl, rfl⟩
  case round =>
    rcases hrel with ⟨rfl, rfl, rfl⟩ | ⟨rfl, rfl, rfl⟩ | ⟨rfl, rfl, rfl⟩
    · go_wp2
      go_roundw
      case rel => exact .inr (.inl ⟨rfl, rfl, by trivial⟩)
      case measure => simp [intOf]
    · go_wp2
      go_roundw
      case rel => exact .inr (.inr ⟨rfl, by go_num, by trivial⟩)
      case measure => simp [intOf]
    · go_wp2_with (go_at_call 66; refine (grow_any _ _ hb).mono ?_; rintro e w1 ⟨v, rfl, hown, hbel⟩)
      have HO := Lib.hid (show Outs 30 4 stC w w1 v ([] : List PS) from ⟨hbel, hown⟩)
      clear hown hbel
      have hold : ∀ (wx : World) (v : Value) (out : List PS) (h : Outs 30 4 stC w wx v out), wx.cell? ⟨bs, 0, none⟩ = some (.slice a1 l1.length c1) ∧ wx.cell? ⟨bs, 1, none⟩ = some (.slice a2 l2.length c2) ∧ w.heap.size ≤ wx.heap.size ∧ Row 4 stC wx a1 l1 ∧ Row 4 stC wx a2 l2 := fun wx v out h =>
        ⟨(h.below.cell (p := ⟨bs, 0, none⟩) ob).trans hb0, (h.below.cell (p := ⟨bs, 1, none⟩) ob).trans hb1, h.below.size, (H1.out.below h.below).row, (H2.out.below h.below).row⟩
      have HOLD := Lib.hid hold
      clear hold
      have e0 := Lib.hid (show ([] : List PS).length + l1.length ≤ maxLen ∧ (([] : List PS).length + l1.length) * 64 ≤ 140737488355328 by simp [maxLen]; omega)
      have e1 := Lib.hid (show l1.length + l2.length ≤ maxLen ∧ (l1.length + l2.length) * 64 ≤ 140737488355328 by simp only [maxLen]; omega)
      go_loopw [6, 27] (fun v i wx => (i = .int .i64 0 ∧ Hid (Outs 30 4 stC w wx v ([] : List PS))) ∨ (i = .int .i64 1 ∧ Hid (Outs 30 4 stC w wx v l1)) ∨ (i = .int .i64 2 ∧ Hid (Outs 30 4 stC w wx v (l1 ++ l2)))) (fun _ i _ => 2 - (intOf i).toNat)
      case atStart => exact .inl ⟨rfl, HO⟩
      case round =>
        clear HO
        rcases hrel with ⟨rfl, ho⟩ | ⟨rfl, ho⟩ | ⟨rfl, ho⟩
        · obtain ⟨x0, x1, hz, r1, r2⟩ := HOLD.out _ _ _ ho.out
          have R1 := Lib.hid r1
          clear r1 r2
          go_wp2_with (at_builtin; refine wpList_append_row rfl _ _ 41 rfl w.heap.size 30 i0 z0 4 64 rfl HI.out.1 HI.out.2.1 HI.out.2.2.1 HI.out.2.2.2.1 HI.out.2.2.2.2 (by omega) stC_len stC_one _ _ _ rfl ho.out.own a1 c1 l1 N1.out rfl R1.out e0.out.1 e0.out.2 hz ?_; intro v' w5 hown hgrow _; have HN := Lib.hid (ho.out.app hown hgrow); clear hown hgrow; refine Stop.here ?_)
          refine Stop.on ?_
          go_wp2
          exact ⟨.inr (.inl ⟨rfl, HN⟩), by simp [intOf]⟩
        · obtain ⟨x0, x1, hz, r1, r2⟩ := HOLD.out _ _ _ ho.out
          have R1 := Lib.hid r2
          clear r1 r2
          go_wp2_with (at_builtin; refine wpList_append_row rfl _ _ 41 rfl w.heap.size 30 i0 z0 4 64 rfl HI.out.1 HI.out.2.1 HI.out.2.2.1 HI.out.2.2.2.1 HI.out.2.2.2.2 (by omega) stC_len stC_one _ _ _ rfl ho.out.own a2 c2 l2 N2.out rfl R1.out e1.out.1 e1.out.2 hz ?_; intro v' w5 hown hgrow _; have HN := Lib.hid (ho.out.app hown hgrow); clear hown hgrow; refine Stop.here ?_)
          refine Stop.on ?_
          go_wp2
          exact ⟨.inr (.inr ⟨rfl, HN⟩), by simp [intOf]⟩
        · go_wp2
          go_ret
          exact ho.out.gives

set_option maxRecDepth 100000 in
theorem clone_any (ad : Option Addr) (l : List PS) (c : Nat) (w : World) (h : Sts w ad l) (hn : ad = none → c = 0) (hb : l.length ≤ 1000) :
    Calls Try.prog 46 #[.slice ad l.length c] w (GivesO 30 4 stC l w) := by
  obtain ⟨i0, z0, HI⟩ := step_info
  have H := Lib.hid h.row
  have HN := Lib.hid hn
  clear hn
  cases ad with
  | none =>
    have h0 : l = [] := List.length_eq_zero_iff.1 (Nat.eq_zero_of_not_pos fun h' => by obtain ⟨_, _, e, _⟩ := H.out h'; cases e)
    subst h0
    have hnil := fun (w : World) (n c : Nat) => Lib.run_eql_slice_nil (P := Try.prog) w 41 30 none n c 0 0 rfl
    clear h
    go_enter Try.func46, Try.ntmps46
    go_wp2
    go_ret
    exact ⟨_, rfl, World.ownsRow_nil _ _ _ _, Below.refl _ _⟩
  | some a =>
    clear h
    have hmade := World.ownsRow_made (base := w.heap.size) (e := 30) (size := 4) w #[] 0 (Nat.le_refl _) (by simp [maxLen]) (by simp)
    have HM := Lib.hid hmade
    clear hmade
    have hnil := fun (w : World) (n c : Nat) => Lib.run_eql_slice_nil (P := Try.prog) w 41 30 (some a) n c 0 0 rfl
    go_enter Try.func46, Try.ntmps46
    go_wp2_with (at_builtin; refine wpList_append_row rfl _ _ 41 rfl w.heap.size 30 i0 z0 4 64 rfl HI.out.1 HI.out.2.1 HI.out.2.2.1 HI.out.2.2.2.1 HI.out.2.2.2.2 (by omega) stC_len stC_one _ _ _ rfl HM.out (some a) c l HN.out rfl (H.out.below (by repeat (first | exact Below.refl _ _ | refine below_gw ?_ (by simp; try omega) _ | refine Below.alloc ?_ (by simp; try omega) _ | refine Below.setCell ?_ (by simp; try omega) _ | refine Below.drew ?_))) (by simp only [maxLen]; omega) (by omega) (by simp) ?_; intro v' w5 hown hgrow _; have HO := Lib.hid (show GivesO 30 4 stC l w (.returned v') w5 from ⟨_, rfl, (by simpa using hown), below_grown (by repeat (first | exact Below.refl _ _ | refine below_gw ?_ (by simp; try omega) _ | refine Below.alloc ?_ (by simp; try omega) _ | refine Below.setCell ?_ (by simp; try omega) _ | refine Below.drew ?_)) hgrow (by simp) (fun k hk => by cases hk; exact Nat.le_refl _)⟩); clear hown hgrow; refine Stop.here ?_)
    refine Stop.on ?_
    go_wp2
    go_ret
    exact HO.out

end Go.Proofs.Ytmgiojkdcpolfaa
