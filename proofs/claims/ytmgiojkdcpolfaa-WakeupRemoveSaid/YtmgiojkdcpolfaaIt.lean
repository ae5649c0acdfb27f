/- Initials of the program and of the reference; SamePicks. -/
import Derived.Test.YtmgiojkdcpolfaaWr
namespace Go.Proofs.Ytmgiojkdcpolfaa
open Go.RowKit Go.Sort

abbrev pkC (x : Int × Int) : List Value := [.int .i64 x.1, .int .i64 x.2]
theorem pkC_len (x : Int × Int) : (pkC x).length = 2 := rfl
theorem pkC_one (x : Int × Int) : ∀ u ∈ pkC x, u.oneCell' = true := by
  intro u hu
  simp at hu
  rcases hu with rfl | rfl <;> rfl
theorem pick_info : ∃ (i : TypeInfo) (z : Value), Hid (Try.prog.info? 26 = some i ∧ i.zero = some z ∧ i.size = 2 ∧ i.bytes = 16 ∧ z.cells.size = 2) := info_of (by kernel_rfl)
/-- The picks of the initials among the first k. -/
def iniF (l : List PS) : Nat → List (Int × Int)
  | 0 => []
  | k + 1 => iniF l k ++ (match l[k]? with | some y => if iniB l k y then [(y.g, y.c)] else [] | none => [])
theorem iniF_yes {l : List PS} {k : Nat} {y : PS} (h : l[k]? = some y) (hb : iniB l k y = true) : iniF l k ++ [(y.g, y.c)] = iniF l (k + 1) := by simp [iniF, h, hb]
theorem iniF_no {l : List PS} {k : Nat} {y : PS} (h : l[k]? = some y) (hb : iniB l k y = false) : iniF l k = iniF l (k + 1) := by simp [iniF, h, hb]
theorem iniF_len (l : List PS) (k : Nat) : (iniF l k).length ≤ k := by
  induction k with
  | zero => simp [iniF]
  | succ k ih =>
    rw [iniF]
    cases l[k]? with
    | none => simp; omega
    | some y =>
      by_cases hbd : iniB l k y = true
      · simp [hbd]; omega
      · simp [hbd]; omega
theorem Outs.alloc {T : TypeId} {n : Nat} {α : Type} {f : α → List Value} {w wr : World} {v : Value} {out : List α} (h : Outs T n f w wr v out) (o : Obj) : Outs T n f w (wr.alloc o) v out :=
  ⟨h.below.alloc h.below.size o, own_of_block h.own fun g hg => Below.heap_alloc _ _ _ (h.own.lt g hg).2⟩

set_option maxRecDepth 100000 in
set_option maxHeartbeats 2000000 in
theorem initialsR_any (ad : Option Addr) (l : List PS) (cap : Nat) (w : World) (hS : Sts w ad l) (hb : l.length ≤ 900) :
    Calls Try.prog 23 #[.slice ad l.length cap] w (GivesO 26 2 pkC (iniF l l.length) w) := by
  obtain ⟨i0, z0, HI⟩ := pick_info
  have HS := Lib.hid hS
  have HO0 := Lib.hid (show Outs 26 2 pkC w w (.slice none 0 0) ([] : List (Int × Int)) from ⟨Below.refl _ _, World.ownsRow_nil _ _ _ _⟩)
  clear hS
  go_enter Try.func23, Try.ntmps23
  go_wp2
  go_loopw [3, 4] (fun v i wr => ∃ k : Nat, k ≤ l.length ∧ i = .int .i64 k ∧ Hid (Outs 26 2 pkC w wr v (iniF l k))) (fun _ i _ => l.length - (intOf i).toNat)
  case atStart => exact ⟨0, by omega, rfl, HO0⟩
  case round =>
    clear HO0
    obtain ⟨k, hk, rfl, ho⟩ := hrel
    have HO := Lib.hid ho.out
    clear ho
    by_cases hlt : k < l.length
    · have kb : (k : Int) < l.length := by omega
      obtain ⟨⟨yg, yc, yga, ygs, ygc, yta, yts, ytc⟩, hy⟩ := get_some hlt
      have HSr := Lib.hid (HS.out.below HO.out.below)
      obtain ⟨b, off, rfl, ho, hc⟩ := HSr.out.row.get hy
      have f0 := hc 0 (by omega)
      have f1 := hc 1 (by omega)
      simp at f0 f1
      have HY := Lib.hid hy
      have HC := Lib.hid (initialR_any (some ⟨b, off, none⟩) l cap k _ wr HSr.out (by omega) hy)
      obtain ⟨d, hd⟩ : ∃ d, iniB l k ⟨yg, yc, yga, ygs, ygc, yta, yts, ytc⟩ = d := ⟨_, rfl⟩
      rw [hd] at HC
      have HD := Lib.hid hd
      clear hy hc hd
      cases d
      · go_wp2_with (go_at_call 47; (with_reducible refine (HC.out).mono ?_); rintro e w1 ⟨rfl, p1, rfl⟩)
        go_wp2
        go_roundw
        case rel => exact ⟨k + 1, by omega, by go_num, Lib.hid (by rw [← iniF_no HY.out HD.out]; exact HO.out.gw p1)⟩
        case measure => simp [intOf]; omega
      · have hz : (iniF l k).length + 1 ≤ maxLen ∧ ((iniF l k).length + 1) * 16 ≤ 140737488355328 ∧ w.heap.size ≤ wr.heap.size := by
          have := iniF_len l k
          exact ⟨by unfold maxLen; omega, by omega, HO.out.below.size⟩
        have HZ := Lib.hid hz
        have ob : Old b wr := Old.of_cell f0
        clear hz
        go_wp2_with (first | (go_at_call 47; (with_reducible refine (HC.out).mono ?_); rintro e w1 ⟨rfl, p1, rfl⟩) | (at_builtin; refine Stop.here ?_))
        refine Stop.on ?_
        refine wpList_append_row rfl _ _ 50 rfl w.heap.size 26 i0 z0 2 16 rfl HI.out.1 HI.out.2.1 HI.out.2.2.1 HI.out.2.2.2.1 HI.out.2.2.2.2 (by omega) pkC_len pkC_one _ _ _ rfl ((HO.out.gw p1).alloc _).own _ 1 [(yg, yc)] (fun h => by cases h) rfl (Row.of_block pkC_len (heap_alloc_at' _ _ _ (by simp)) (by simp)) HZ.out.1 HZ.out.2.1 (by have := HZ.out.2.2; simp; omega) ?_
        intro v' w5 hown hgrow _
        have HN := Lib.hid (((HO.out.gw p1).alloc _).app (l := [(yg, yc)]) hown hgrow)
        clear hown hgrow
        go_wp2
        go_roundw
        case rel => exact ⟨k + 1, by omega, by go_num, Lib.hid (by rw [← iniF_yes HY.out HD.out]; exact HN.out)⟩
        case measure => simp [intOf]; omega
    · obtain rfl : k = l.length := by omega
      go_wp2
      go_ret
      exact HO.out.gives

set_option maxRecDepth 100000 in
set_option maxHeartbeats 2000000 in
theorem initialsP_any (ad : Option Addr) (l : List PS) (cap : Nat) (w : World) (hS : Sts w ad l) (hcap : l.length ≤ cap) (hb : l.length ≤ 900) :
    Calls Try.prog 22 #[.slice ad l.length cap] w (GivesO 26 2 pkC (iniF l l.length) w) := by
  obtain ⟨i0, z0, HI⟩ := pick_info
  have HS := Lib.hid hS
  have HO0 := Lib.hid (show Outs 26 2 pkC w w (.slice none 0 0) ([] : List (Int × Int)) from ⟨Below.refl _ _, World.ownsRow_nil _ _ _ _⟩)
  clear hS
  go_enter Try.func22, Try.ntmps22
  go_wp2
  go_loopw [3, 8] (fun v i wr => ∃ k : Nat, k ≤ l.length ∧ i = .int .i64 k ∧ Hid (Outs 26 2 pkC w wr v (iniF l k))) (fun _ i _ => l.length - (intOf i).toNat)
  case atStart => exact ⟨0, by omega, rfl, HO0⟩
  case round =>
    clear HO0
    obtain ⟨k, hk, rfl, ho⟩ := hrel
    have HO := Lib.hid ho.out
    clear ho
    by_cases hlt : k < l.length
    · have kb : (k : Int) < l.length := by omega
      obtain ⟨⟨yg, yc, yga, ygs, ygc, yta, yts, ytc⟩, hy⟩ := get_some hlt
      have HSr := Lib.hid (HS.out.below HO.out.below)
      obtain ⟨b, off, rfl, ho, hc⟩ := HSr.out.row.get hy
      have f0 := hc 0 (by omega)
      have f1 := hc 1 (by omega)
      have f2 := hc 2 (by omega)
      have f3 := hc 3 (by omega)
      simp at f0 f1 f2 f3
      have HY := Lib.hid hy
      have HC := Lib.hid (initialP_any (some ⟨b, off, none⟩) l cap k _ (wr.alloc (.cells #[.int .i64 yg, .int .i64 yc, .slice yga ygs.length ygc, .slice yta yts.length ytc] 30)) (HSr.out.below ((Below.refl _ _).alloc (Nat.le_refl _) _)) hcap (by omega) hy)
      obtain ⟨d, hd⟩ : ∃ d, iniB l k ⟨yg, yc, yga, ygs, ygc, yta, yts, ytc⟩ = d := ⟨_, rfl⟩
      rw [hd] at HC
      have HD := Lib.hid hd
      clear hy hc hd
      cases d
      · go_wp2_with (go_at_call 41; (with_reducible refine (HC.out).mono ?_); rintro e w1 ⟨rfl, p1, rfl⟩)
        go_wp2
        go_roundw
        case rel => exact ⟨k + 1, by omega, by go_num, Lib.hid (by rw [← iniF_no HY.out HD.out]; exact (HO.out.alloc _).gw p1)⟩
        case measure => simp [intOf]; omega
      · have hz : (iniF l k).length + 1 ≤ maxLen ∧ ((iniF l k).length + 1) * 16 ≤ 140737488355328 ∧ w.heap.size ≤ wr.heap.size := by
          have := iniF_len l k
          exact ⟨by unfold maxLen; omega, by omega, HO.out.below.size⟩
        have HZ := Lib.hid hz
        have ob : Old b wr := Old.of_cell f0
        clear hz
        go_wp2_with (first | (go_at_call 41; (with_reducible refine (HC.out).mono ?_); rintro e w1 ⟨rfl, p1, rfl⟩) | (at_builtin; refine Stop.here ?_))
        refine Stop.on ?_
        refine wpList_append_row rfl _ _ 50 rfl w.heap.size 26 i0 z0 2 16 rfl HI.out.1 HI.out.2.1 HI.out.2.2.1 HI.out.2.2.2.1 HI.out.2.2.2.2 (by omega) pkC_len pkC_one _ _ _ rfl (((HO.out.alloc _).gw p1).alloc _).own _ 1 [(yg, yc)] (fun h => by cases h) rfl (Row.of_block pkC_len (heap_alloc_at' _ _ _ (by simp)) (by simp)) HZ.out.1 HZ.out.2.1 (by have := HZ.out.2.2; simp; omega) ?_
        intro v' w5 hown hgrow _
        have HN := Lib.hid ((((HO.out.alloc _).gw p1).alloc _).app (l := [(yg, yc)]) hown hgrow)
        clear hown hgrow
        go_wp2
        go_roundw
        case rel => exact ⟨k + 1, by omega, by go_num, Lib.hid (by rw [← iniF_yes HY.out HD.out]; exact HN.out)⟩
        case measure => simp [intOf]; omega
    · obtain rfl : k = l.length := by omega
      go_wp2
      go_ret
      exact HO.out.gives

set_option maxRecDepth 100000 in
theorem samePicks_self (a1 a2 : Option Addr) (l : List (Int × Int)) (c1 c2 : Nat) (w : World) (h1 : Row 2 pkC w a1 l) (h2 : Row 2 pkC w a2 l) (hb : l.length ≤ 1000) :
    Calls Try.prog 21 #[.slice a1 l.length c1, .slice a2 l.length c2] w (Gives (.bool true) w) := by
  have H1 := Lib.hid h1
  have H2 := Lib.hid h2
  clear h1 h2
  go_enter Try.func21, Try.ntmps21
  go_wp2
  go_loopw [5] (fun i wr => ∃ k : Nat, ∃ r, k ≤ l.length ∧ i = .int .i64 k ∧ wr = gw w r) (fun i _ => l.length - (intOf i).toNat)
  case atStart => exact ⟨0, _, by omega, rfl, gw_self _⟩
  case round =>
    obtain ⟨k, r, hk, rfl, rfl⟩ := hrel
    by_cases hlt : k < l.length
    · have kb : (k : Int) < l.length := by omega
      obtain ⟨⟨x, y⟩, hx⟩ := get_some hlt
      obtain ⟨b, off, rfl, ho, hc⟩ := H1.out.get hx
      obtain ⟨b', off', rfl, ho', hc'⟩ := H2.out.get hx
      have f0 := hc 0 (by omega)
      have f1 := hc 1 (by omega)
      have g0 := hc' 0 (by omega)
      have g1 := hc' 1 (by omega)
      simp at f0 f1 g0 g1
      clear hx hc hc'
      go_wp2
      refine wp_region_gw (by kernel_rfl) (by kernel_rfl) ?_
      repeat (quiet_step (first | fail))
      refine wpQuiet_nil ?_
      intro _ hw'
      obtain ⟨p1, hw''⟩ := hw'
      subst hw''
      go_wp2
      go_roundw
      case rel =>
        obtain ⟨r', hr'⟩ := back_gw w r p1
        exact ⟨k + 1, r', by omega, by go_num, hr'⟩
      case measure => simp [intOf]; omega
    · go_wp2
      have HB := Lib.hid (gw_below w r)
      go_ret
      exact Gives.mk rfl (by have hb' := HB.out; have hs' := HB.out.size; repeat (first | exact hb' | refine below_gw ?_ (by first | (simp; done) | (simp; omega) | omega) _ | refine Below.alloc ?_ (by first | (simp; done) | (simp; omega) | omega) _ | refine Below.setCell ?_ (by first | (simp; done) | (simp; omega) | omega) | refine Below.drew ?_))
end Go.Proofs.Ytmgiojkdcpolfaa
