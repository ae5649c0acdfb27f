/- The reference's list of nodes in memory; children. -/
import Derived.Test.YtmgiojkdcpolfaaRn
import Derived.Test.YtmgiojkdcpolfaaIt
import Derived.BigQuiet
namespace Go.Proofs.Ytmgiojkdcpolfaa
open Go.RowKit Go.Sort PT

abbrev natC (x : Nat) : List Value := [.int .i64 x]
theorem natC_len (x : Nat) : (natC x).length = 1 := rfl
theorem natC_one (x : Nat) : ∀ u ∈ natC x, u.oneCell' = true := by
  intro u hu
  simp at hu
  subst hu
  rfl
theorem int_info : ∃ (i : TypeInfo) (z : Value), Hid (Try.prog.info? 3 = some i ∧ i.zero = some z ∧ i.size = 1 ∧ i.bytes = 8 ∧ z.cells.size = 1) := info_of (by kernel_rfl)
/-- A node as it lies. -/
structure Nd where
  p : List Nat
  ad : Option Addr
  cap : Nat
  s : PS
abbrev ndC (x : Nd) : List Value := [.slice x.ad x.p.length x.cap, .int .i64 x.s.g, .int .i64 x.s.c, .slice x.s.ga x.s.gs.length x.s.gc, .slice x.s.ta x.s.ts.length x.s.tc]
abbrev ndv (x : Nd) : Value := .agg #[.slice x.ad x.p.length x.cap, .int .i64 x.s.g, .int .i64 x.s.c, .slice x.s.ga x.s.gs.length x.s.gc, .slice x.s.ta x.s.ts.length x.s.tc]
theorem ndC_len (x : Nd) : (ndC x).length = 5 := rfl
theorem ndC_one (x : Nd) : ∀ u ∈ ndC x, u.oneCell' = true := by
  intro u hu
  simp at hu
  rcases hu with rfl | rfl | rfl | rfl | rfl <;> rfl
def en (x : Nd) : En := (x.p, x.s)
theorem node_info : ∃ (i : TypeInfo) (z : Value), Hid (Try.prog.info? 95 = some i ∧ i.zero = some z ∧ i.size = 5 ∧ i.bytes = 88 ∧ z.cells.size = 5) := info_of (by kernel_rfl)
/-- A list of nodes: its row, and the rows of its nodes. -/
structure Nds (w : World) (ad : Option Addr) (u : List Nd) : Prop where
  row : Row 5 ndC w ad u
  at' : ∀ x ∈ u, Row 1 natC w x.ad x.p
  len : ∀ x ∈ u, x.p.length ≤ 1000 ∧ x.p.length ≤ x.cap ∧ (x.ad = none → x.cap = 0)
  rd : ∀ x ∈ u, Rd w x.s
theorem Nds.below {w w' : World} {ad : Option Addr} {u : List Nd} (h : Nds w ad u) (hb : Below w.heap.size w w') : Nds w' ad u :=
  ⟨h.row.below hb, fun x hx => (h.at' x hx).below hb, h.len, fun x hx => (h.rd x hx).below hb⟩
theorem Nds.gw {w : World} {ad : Option Addr} {u : List Nd} (h : Nds w ad u) (q : Regrown) : Nds (gw w q) ad u := h.below (gw_below _ _)

theorem take_ne {p q : List Nat} {k x y : Nat} (hx : p[k]? = some x) (hy : q[k]? = some y) (h : x ≠ y) (hl : k < q.length) : p.take q.length ≠ q := fun e => by
  have : (p.take q.length)[k]? = some x := by rw [List.getElem?_take_of_lt hl]; exact hx
  rw [e, hy] at this
  cases this
  exact h rfl
theorem take_eq_step {p q : List Nat} {k x : Nat} (h : p.take k = q.take k) (hx : p[k]? = some x) (hy : q[k]? = some x) : p.take (k + 1) = q.take (k + 1) := by
  obtain ⟨h1, e1⟩ := List.getElem?_eq_some_iff.1 hx
  obtain ⟨h2, e2⟩ := List.getElem?_eq_some_iff.1 hy
  rw [List.take_succ_eq_append_getElem h1, List.take_succ_eq_append_getElem h2, h, e1, e2]

set_option maxRecDepth 100000 in
theorem isChild_any (a1 a2 : Option Addr) (p q : List Nat) (c1 c2 : Nat) (w : World) (h1 : Row 1 natC w a1 p) (h2 : Row 1 natC w a2 q) (hb1 : p.length ≤ 1000) (hb2 : q.length ≤ 1000) :
    Calls Try.prog 85 #[.slice a1 p.length c1, .slice a2 q.length c2] w (Gives (.bool (isCh p q)) w) := by
  have H1 := Lib.hid h1
  have H2 := Lib.hid h2
  clear h1 h2
  have hwr : IntKind.i64.wrap ((q.length : Int) + 1) = (q.length : Int) + 1 := by rw [IntKind.wrap_i64]; omega
  by_cases hl : p.length = q.length + 1
  · have hz : ((p.length : Int) != (q.length : Int) + 1) = false := by simp; omega
    have HL := Lib.hid hl
    have hlq : q.length < p.length := by omega
    clear hl
    go_enter Try.func85, Try.ntmps85
    go_wp2
    go_loopw [5] (fun i wr => ∃ k : Nat, ∃ r, k ≤ q.length ∧ i = .int .i64 k ∧ Hid (p.take k = q.take k) ∧ wr = gw w r) (fun i _ => q.length - (intOf i).toNat)
    case atStart => exact ⟨0, _, by omega, rfl, Lib.hid rfl, gw_self _⟩
    case round =>
      obtain ⟨k, r, hk, rfl, hf, rfl⟩ := hrel
      have HF := Lib.hid hf.out
      clear hf
      by_cases hlt : k < q.length
      · have kb : (k : Int) < q.length := by omega
        have kb2 : (k : Int) < p.length := by omega
        obtain ⟨x, hx⟩ := get_some (show k < p.length by omega)
        obtain ⟨y, hy⟩ := get_some hlt
        obtain ⟨b, off, rfl, ho, hc⟩ := H1.out.get hx
        obtain ⟨b', off', rfl, ho', hc'⟩ := H2.out.get hy
        have f0 := hc 0 (by omega)
        have g0 := hc' 0 (by omega)
        simp at f0 g0
        have HX := Lib.hid hx
        have HY := Lib.hid hy
        clear hx hy hc hc'
        by_cases hxy : x = y
        · subst hxy
          go_wp2
          refine wp_region_gw (by kernel_rfl) (by kernel_rfl) ?_
          repeat (go_big_quiet_step (first | fail))
          refine wpQuiet_nil ?_
          intro _ hw'
          obtain ⟨p1, hw''⟩ := hw'
          subst hw''
          go_wp2
          go_roundw
          case rel =>
            obtain ⟨r', hr'⟩ := back_gw w r p1
            exact ⟨k + 1, r', by omega, by go_num, Lib.hid (take_eq_step HF.out HX.out HY.out), hr'⟩
          case measure => simp [intOf]; omega
        · have hz2 : ((x : Int) != (y : Int)) = true := by simp; omega
          have he := Lib.hid (show false = isCh p q by
            have := take_ne HX.out HY.out hxy hlt
            symm
            simp [isCh, this])
          go_wp2
          refine wp_region_gw (by kernel_rfl) (by kernel_rfl) ?_
          repeat (go_big_quiet_step (first | fail))
          refine wpQuiet_nil ?_
          intro _ hw'
          obtain ⟨p1, hw''⟩ := hw'
          subst hw''
          go_wp2
          have HB := Lib.hid (below_gw (gw_below w r) (by simp) p1)
          go_ret; exact Gives.mk (by rw [he.out]; rfl) (by have hb' := HB.out; have hs' := HB.out.size; repeat (first | exact hb' | refine below_gw ?_ (by first | (simp; done) | (simp; omega) | omega) _ | refine Below.alloc ?_ (by first | (simp; done) | (simp; omega) | omega) _ | refine Below.setCell ?_ (by first | (simp; done) | (simp; omega) | omega) | refine Below.drew ?_))
      · have he := Lib.hid (show true = isCh p q by
          symm
          have hkq : k = q.length := by omega
          have := HF.out
          rw [hkq, List.take_length] at this
          simp [isCh, HL.out, this])
        go_wp2
        have HB := Lib.hid (gw_below w r)
        go_ret; exact Gives.mk (by rw [he.out]; rfl) (by have hb' := HB.out; have hs' := HB.out.size; repeat (first | exact hb' | refine below_gw ?_ (by first | (simp; done) | (simp; omega) | omega) _ | refine Below.alloc ?_ (by first | (simp; done) | (simp; omega) | omega) _ | refine Below.setCell ?_ (by first | (simp; done) | (simp; omega) | omega) | refine Below.drew ?_))
  · have hz : ((p.length : Int) != (q.length : Int) + 1) = true := by simp; omega
    have he := Lib.hid (show false = isCh p q by symm; simp [isCh, hl])
    clear hl
    go_enter Try.func85, Try.ntmps85
    go_wp2
    have HB := Lib.hid (Below.refl w.heap.size w)
    go_ret; exact Gives.mk (by rw [he.out]; rfl) (by have hb' := HB.out; have hs' := HB.out.size; repeat (first | exact hb' | refine below_gw ?_ (by first | (simp; done) | (simp; omega) | omega) _ | refine Below.alloc ?_ (by first | (simp; done) | (simp; omega) | omega) _ | refine Below.setCell ?_ (by first | (simp; done) | (simp; omega) | omega) | refine Below.drew ?_))

/-- The indexes of the children among the first k. -/
def chI (u : List Nd) (q : List Nat) : Nat → List Nat
  | 0 => []
  | k + 1 => chI u q k ++ (match u[k]? with | some y => if isCh y.p q then [k] else [] | none => [])
theorem chI_yes {u : List Nd} {q : List Nat} {k : Nat} {y : Nd} (h : u[k]? = some y) (hb : isCh y.p q = true) : chI u q k ++ [k] = chI u q (k + 1) := by simp [chI, h, hb]
theorem chI_no {u : List Nd} {q : List Nat} {k : Nat} {y : Nd} (h : u[k]? = some y) (hb : isCh y.p q = false) : chI u q k = chI u q (k + 1) := by simp [chI, h, hb]
theorem chI_len (u : List Nd) (q : List Nat) (k : Nat) : (chI u q k).length ≤ k := by
  induction k with
  | zero => simp [chI]
  | succ k ih =>
    rw [chI]
    cases u[k]? with
    | none => simp; omega
    | some y =>
      by_cases hbd : isCh y.p q = true
      · simp [hbd]; omega
      · simp [hbd]; omega
/-- The indexes lead to the children. -/
theorem chI_spec (u : List Nd) (q : List Nat) : ∀ k, k ≤ u.length → (chI u q k).map (fun i => (u[i]?).map en) = (chL ((u.take k).map en) q).map some
  | 0, _ => by simp [chI, chL]
  | k + 1, hk => by
    obtain ⟨y, hy⟩ := get_some (show k < u.length by omega)
    obtain ⟨h1, e⟩ := List.getElem?_eq_some_iff.1 hy
    rw [chI, hy, List.map_append, chI_spec u q k (by omega), List.take_succ_eq_append_getElem h1, List.map_append, chL_append, List.map_append, e]
    congr 1
    simp only [List.map_cons, List.map_nil, chL, List.filter_cons, List.filter_nil, en]
    by_cases hb : isCh y.p q = true
    · simp [hb, hy, en]
    · simp [hb]
theorem chI_all (u : List Nd) (q : List Nat) : (chI u q u.length).map (fun i => (u[i]?).map en) = (chL (u.map en) q).map some := by
  have := chI_spec u q u.length (Nat.le_refl _)
  rwa [List.take_length] at this

set_option maxRecDepth 100000 in
set_option maxHeartbeats 2000000 in
theorem children_any (ad : Option Addr) (u : List Nd) (cap : Nat) (a2 : Option Addr) (q : List Nat) (c2 : Nat) (w : World) (hN : Nds w ad u) (hq : Row 1 natC w a2 q) (hb : u.length ≤ 1000) (hbq : q.length ≤ 1000) :
    Calls Try.prog 62 #[.slice ad u.length cap, .slice a2 q.length c2] w (GivesO 3 1 natC (chI u q u.length) w) := by
  obtain ⟨i0, z0, HI⟩ := int_info
  have HN := Lib.hid hN
  have HQ := Lib.hid hq
  have HO0 := Lib.hid (show Outs 3 1 natC w w (.slice none 0 0) ([] : List Nat) from ⟨Below.refl _ _, World.ownsRow_nil _ _ _ _⟩)
  clear hN hq
  go_enter Try.func62, Try.ntmps62
  go_wp2
  go_loopw [5, 6] (fun v i wr => ∃ k : Nat, k ≤ u.length ∧ i = .int .i64 k ∧ Hid (Outs 3 1 natC w wr v (chI u q k))) (fun _ i _ => u.length - (intOf i).toNat)
  case atStart => exact ⟨0, by omega, rfl, HO0⟩
  case round =>
    clear HO0
    obtain ⟨k, hk, rfl, ho⟩ := hrel
    have HO := Lib.hid ho.out
    clear ho
    by_cases hlt : k < u.length
    · have kb : (k : Int) < u.length := by omega
      obtain ⟨⟨yp, ya, yc, ys⟩, hy⟩ := get_some hlt
      have HNr := Lib.hid (HN.out.below HO.out.below)
      obtain ⟨b, off, rfl, ho, hc⟩ := HNr.out.row.get hy
      have f0 := hc 0 (by omega)
      simp at f0
      have HY := Lib.hid hy
      have hm := List.mem_of_getElem? hy
      have HC := Lib.hid (isChild_any ya a2 yp q yc c2 wr (HNr.out.at' _ hm) (HQ.out.below HO.out.below) (HNr.out.len _ hm).1 hbq)
      obtain ⟨d, hd⟩ : ∃ d, isCh yp q = d := ⟨_, rfl⟩
      rw [hd] at HC
      have HD := Lib.hid hd
      clear hy hc hd hm
      cases d
      · go_wp2_with (go_at_call 85; (with_reducible refine (HC.out).mono ?_); rintro e w1 ⟨rfl, p1, rfl⟩)
        go_wp2
        go_roundw
        case rel => exact ⟨k + 1, by omega, by go_num, Lib.hid (by rw [← chI_no HY.out HD.out]; exact HO.out.gw p1)⟩
        case measure => simp [intOf]; omega
      · have hz : (chI u q k).length + 1 ≤ maxLen ∧ ((chI u q k).length + 1) * 8 ≤ 140737488355328 ∧ w.heap.size ≤ wr.heap.size := by
          have := chI_len u q k
          exact ⟨by unfold maxLen; omega, by omega, HO.out.below.size⟩
        have HZ := Lib.hid hz
        have ob : Old b wr := Old.of_cell f0
        clear hz
        go_wp2_with (first | (go_at_call 85; (with_reducible refine (HC.out).mono ?_); rintro e w1 ⟨rfl, p1, rfl⟩) | (at_builtin; refine Stop.here ?_))
        refine Stop.on ?_
        refine wpList_append_row rfl _ _ 27 rfl w.heap.size 3 i0 z0 1 8 rfl HI.out.1 HI.out.2.1 HI.out.2.2.1 HI.out.2.2.2.1 HI.out.2.2.2.2 (by omega) natC_len natC_one _ _ _ rfl ((HO.out.gw p1).alloc _).own _ 1 [k] (fun h => by cases h) rfl (Row.of_block natC_len (heap_alloc_at' _ _ _ (by simp)) (by simp)) HZ.out.1 HZ.out.2.1 (by have := HZ.out.2.2; simp; omega) ?_
        intro v' w5 hown hgrow _
        have HNN := Lib.hid (((HO.out.gw p1).alloc _).app (l := [k]) hown hgrow)
        clear hown hgrow
        go_wp2
        go_roundw
        case rel => exact ⟨k + 1, by omega, by go_num, Lib.hid (by rw [← chI_yes HY.out HD.out]; exact HNN.out)⟩
        case measure => simp [intOf]; omega
    · obtain rfl : k = u.length := by omega
      go_wp2
      go_ret
      exact HO.out.gives
end Go.Proofs.Ytmgiojkdcpolfaa
