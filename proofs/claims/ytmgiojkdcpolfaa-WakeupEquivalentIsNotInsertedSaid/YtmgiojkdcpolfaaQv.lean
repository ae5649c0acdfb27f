/- WakeupEquivalentIsNotInserted: the walk. -/
import Derived.Test.YtmgiojkdcpolfaaQs
import Derived.Test.YtmgiojkdcpolfaaVd
import Derived.Test.YtmgiojkdcpolfaaOs
import Derived.BigQuiet
namespace Go.Proofs.Ytmgiojkdcpolfaa
open Go.RowKit Go.Sort PT

/-- Two steps in different places have different picks, up to k. -/
def DisK (l : List PS) (k : Nat) : Prop := ∀ i j : Nat, j < i → i < k → ∀ x y, l[i]? = some x → l[j]? = some y → pk x y = false
theorem DisK.dist {l : List PS} (h : DisK l l.length) : Dist l := dist_of fun i k hk x y hx hy => h i k hk (List.getElem?_eq_some_iff.1 hx).1 x y hx hy
def DisJ (l : List PS) (k j : Nat) : Prop := ∀ i : Nat, i < j → ∀ x y, l[k]? = some x → l[i]? = some y → pk x y = false
theorem DisK.succ {l : List PS} {k : Nat} (h : DisK l k) (hj : DisJ l k k) : DisK l (k + 1) := fun i j hji hi x y hx hy => by
  by_cases e : i = k
  · subst e; exact hj j hji x y hx hy
  · exact h i j hji (by omega) x y hx hy
theorem DisJ.succ {l : List PS} {k j : Nat} {x y : PS} (h : DisJ l k j) (hx : l[k]? = some x) (hy : l[j]? = some y) (hp : pk x y = false) : DisJ l k (j + 1) := fun i hi x' y' hx' hy' => by
  by_cases e : i = j
  · subst e
    rw [hx] at hx'; rw [hy] at hy'; cases hx'; cases hy'; exact hp
  · exact h i (by omega) x' y' hx' hy'

theorem sh_t00 : sh t00 = .nd t00.s [] := by simp [sh, shL, PT.s]
theorem ins_new {l : List PS} (h : l ≠ []) : insT (sh t00) l true = .nd t00.s (chain l) := by
  rw [sh_t00, insT]
  cases l with
  | nil => exact absurd rfl h
  | cons x l => simp [insL]
theorem lvK_one {s : PS} {l : List PS} (h : l ≠ []) : lvK [] (T.ks (.nd s (chain l))) = [l] := by
  cases l with
  | nil => exact absurd rfl h
  | cons x l => exact lvK_chain [] x l

set_option maxRecDepth 100000 in
set_option maxHeartbeats 4000000 in
theorem equivalent_any (ad : Option Addr) (l : List PS) (cap : Nat) (bd : Option Addr) (ss : List Nat) (bc : Nat) (w : World) (hq : SeqU w ⟨ad, l, cap⟩) (hb : Row 1 byC w bd ss) (hbl : ∀ x ∈ ss, x < 256) :
    Calls Try.prog 5 #[.slice ad l.length cap, .slice bd ss.length bc] w (Gives (.bool true) w) := by
  have HQ := Lib.hid hq
  have HSS := Lib.hid hb
  have HBL := Lib.hid hbl
  clear hq hb hbl
  have hpr : ∀ q : Regrown, Row 1 paC ((gw w q).alloc (.cells #[.slice ad l.length cap] 41)) (some ⟨w.heap.size + q.os.size, 0, none⟩) [⟨ad, l, cap⟩] := fun q => Row.of_block paC_len (heap_alloc_at' _ _ _ (by simp)) (by simp)
  have hfw := fun q => few_any _ [⟨ad, l, cap⟩] 1 _ (hpr q) (fun x hx => by
    simp at hx
    subst hx
    exact (HQ.out.row.gw q).below ((Below.refl _ _).alloc (Nat.le_refl _) _))
  simp only [List.length_cons, List.length_nil, Nat.zero_add] at hfw
  clear hpr
  obtain ⟨d, hd⟩ : ∃ d, few [⟨ad, l, cap⟩] = d := ⟨_, rfl⟩
  simp only [hd] at hfw
  have HFW := Lib.hid hfw
  clear hfw
  cases d
  · go_enter Try.func5, Try.ntmps5
    go_wp2_with (first | (go_at_call 9; (with_reducible refine (awake_any _).mono ?_); rintro e w1 ⟨rfl, p1, rfl⟩) | (go_at_call 10; (with_reducible refine (HFW.out p1).mono ?_); rintro e w1 ⟨rfl, p2, rfl⟩))
    have HB := Lib.hid (below_gw ((gw_below w p1).alloc (by simp) (.cells #[.slice ad l.length cap] 41)) (by simp; omega) p2)
    go_ret; exact Gives.mk rfl (by have hb' := HB.out; have hs' := HB.out.size; repeat (first | exact hb' | refine below_gw ?_ (by first | (simp; done) | (simp; omega) | omega) _ | refine Below.alloc ?_ (by first | (simp; done) | (simp; omega) | omega) _ | refine Below.setCell ?_ (by first | (simp; done) | (simp; omega) | omega) | refine Below.drew ?_))
  have hsf := seqF_of hd (W := w) (fun q hx => by simp at hx; subst hx; exact HQ.out) ⟨ad, l, cap⟩ (by simp)
  have HSF := Lib.hid hsf
  have hln := hsf.len
  simp only at hln
  clear hd hsf
  by_cases hl0 : l.length = 0
  · have hz0 : ((l.length : Int) == 0) = true := by simp [hl0]
    clear hl0 hln
    go_enter Try.func5, Try.ntmps5
    go_wp2_with (first | (go_at_call 9; (with_reducible refine (awake_any _).mono ?_); rintro e w1 ⟨rfl, p1, rfl⟩) | (go_at_call 10; (with_reducible refine (HFW.out p1).mono ?_); rintro e w1 ⟨rfl, p2, rfl⟩))
    have HB := Lib.hid (below_gw ((gw_below w p1).alloc (by simp) (.cells #[.slice ad l.length cap] 41)) (by simp; omega) p2)
    go_ret; exact Gives.mk rfl (by have hb' := HB.out; have hs' := HB.out.size; repeat (first | exact hb' | refine below_gw ?_ (by first | (simp; done) | (simp; omega) | omega) _ | refine Below.alloc ?_ (by first | (simp; done) | (simp; omega) | omega) _ | refine Below.setCell ?_ (by first | (simp; done) | (simp; omega) | omega) | refine Below.drew ?_))
  have hz0 : ((l.length : Int) == 0) = false := by simp; exact fun h => hl0 (by rw [h]; rfl)
  by_cases hs4 : 40 < ss.length
  · have hd4 : decide ((40 : Int) < (ss.length : Int)) = true := by simp; omega
    clear hs4
    go_enter Try.func5, Try.ntmps5
    go_wp2_with (first | (go_at_call 9; (with_reducible refine (awake_any _).mono ?_); rintro e w1 ⟨rfl, p1, rfl⟩) | (go_at_call 10; (with_reducible refine (HFW.out p1).mono ?_); rintro e w1 ⟨rfl, p2, rfl⟩))
    have HB := Lib.hid (below_gw ((gw_below w p1).alloc (by simp) (.cells #[.slice ad l.length cap] 41)) (by simp; omega) p2)
    go_ret; exact Gives.mk rfl (by have hb' := HB.out; have hs' := HB.out.size; repeat (first | exact hb' | refine below_gw ?_ (by first | (simp; done) | (simp; omega) | omega) _ | refine Below.alloc ?_ (by first | (simp; done) | (simp; omega) | omega) _ | refine Below.setCell ?_ (by first | (simp; done) | (simp; omega) | omega) | refine Below.drew ?_))
  have hd4 : decide ((40 : Int) < (ss.length : Int)) = false := by simp; omega
  have hsts : Sts w ad l := ⟨HQ.out.row, HSF.out.rd⟩
  have HST := Lib.hid hsts
  clear hsts
  go_enter Try.func5, Try.ntmps5
  go_wp2_with (first | (go_at_call 9; (with_reducible refine (awake_any _).mono ?_); rintro e w1 ⟨rfl, p1, rfl⟩) | (go_at_call 10; (with_reducible refine (HFW.out p1).mono ?_); rintro e w1 ⟨rfl, p2, rfl⟩) | (go_at_call 17; refine Stop.here ?_))
  refine Stop.on ?_
  have hb2 : Below w.heap.size w (gw ((gw w p1).alloc (.cells #[.slice ad l.length cap] 41)) p2) := below_gw ((gw_below w p1).alloc (by simp) _) (by simp; omega) p2
  refine (validAll_any ad l cap _ (HST.out.below hb2) (by omega)).mono ?_
  rintro e w1 ⟨d, rfl, p3, rfl⟩
  have HB := Lib.hid (below_gw hb2 hb2.size p3)
  clear hb2 HFW
  generalize gw (gw ((gw w p1).alloc (.cells #[.slice ad l.length cap] 41)) p2) p3 = X at *
  cases d
  · go_wp2
    go_ret; exact Gives.mk rfl (by have hb' := HB.out; have hs' := HB.out.size; repeat (first | exact hb' | refine below_gw ?_ (by first | (simp; done) | (simp; omega) | omega) _ | refine Below.alloc ?_ (by first | (simp; done) | (simp; omega) | omega) _ | refine Below.setCell ?_ (by first | (simp; done) | (simp; omega) | omega) | refine Below.drew ?_))
  have HS := Lib.hid (HST.out.below HB.out)
  go_wp2
  go_loopw [5] (fun i wr => ∃ (k : Nat) (r : Regrown), k ≤ l.length ∧ i = .int .i64 k ∧ Hid (DisK l k) ∧ wr = gw X r) (fun i _ => l.length - (intOf i).toNat)
  case atStart => exact ⟨0, _, by omega, rfl, Lib.hid (fun i j _ h => absurd h (by omega)), gw_self _⟩
  case round =>
    obtain ⟨k, r, hk, rfl, hdk, rfl⟩ := hrel
    have HDK := Lib.hid hdk.out
    clear hdk
    by_cases hlt : k < l.length
    · have kb : (k : Int) < l.length := by omega
      obtain ⟨⟨xg, xc, xga, xgs, xgc, xta, xts, xtc⟩, hx⟩ := get_some hlt
      obtain ⟨b₀, off, rfl, ho, hc⟩ := HS.out.row.get hx
      have f0 := hc 0 (by omega)
      have f1 := hc 1 (by omega)
      simp at f0 f1
      have HX := Lib.hid hx
      clear hx hc
      go_wp2
      go_loopw [6] (fun i wr => ∃ (j : Nat) (r : Regrown), j ≤ k ∧ i = .int .i64 j ∧ Hid (DisJ l k j) ∧ wr = gw X r) (fun i _ => k - (intOf i).toNat)
      case atStart => exact ⟨0, r, by omega, rfl, Lib.hid (fun i h => absurd h (by omega)), rfl⟩
      case round =>
        obtain ⟨j, r, hj, rfl, hdj, rfl⟩ := hrel
        have HDJ := Lib.hid hdj.out
        clear hdj
        by_cases hjt : j < k
        · have jb : (j : Int) < l.length := by omega
          have jk : (j : Int) < k := by omega
          obtain ⟨⟨yg, yc, yga, ygs, ygc, yta, yts, ytc⟩, hy⟩ := get_some (show j < l.length by omega)
          obtain ⟨b₁, off₁, e, _, hc⟩ := HS.out.row.get hy
          cases e
          have g0 := hc 0 (by omega)
          have g1 := hc 1 (by omega)
          simp at g0 g1
          have HY := Lib.hid hy
          clear hy hc
          by_cases hg : xg = yg
          · subst hg
            by_cases hcc : xc = yc
            · subst hcc
              go_wp2
              refine wp_region_gw (by kernel_rfl) (by kernel_rfl) ?_
              repeat (go_big_quiet_step (first | fail))
              refine wpQuiet_nil ?_
              intro _ hw'
              obtain ⟨p4, hw''⟩ := hw'
              subst hw''
              go_wp2
              have HBX := Lib.hid (below_gw HB.out HB.out.size r)
              have hsz := HBX.out.size
              go_ret; exact Gives.mk rfl (by have hb' := HBX.out; have hs' := HBX.out.size; repeat (first | exact hb' | refine below_gw ?_ (by first | (simp; done) | (simp; omega) | omega) _ | refine Below.alloc ?_ (by first | (simp; done) | (simp; omega) | omega) _ | refine Below.setCell ?_ (by first | (simp; done) | (simp; omega) | omega) | refine Below.drew ?_))
            · have hb : (xc == yc) = false := by simp [hcc]
              have HP := Lib.hid (HDJ.out.succ HX.out HY.out (by simp [pk, hcc]))
              clear hcc
              go_wp2
              refine wp_region_gw (by kernel_rfl) (by kernel_rfl) ?_
              repeat (go_big_quiet_step (first | fail))
              refine wpQuiet_nil ?_
              intro _ hw'
              obtain ⟨p4, hw''⟩ := hw'
              subst hw''
              go_wp2
              go_roundw
              case rel =>
                obtain ⟨r', hr'⟩ := back_gw X r p4
                exact ⟨j + 1, r', by omega, by go_num, HP, hr'⟩
              case measure => simp [intOf]; omega
          · have hb : (xg == yg) = false := by simp [hg]
            have HP := Lib.hid (HDJ.out.succ HX.out HY.out (by simp [pk, hg]))
            clear hg
            go_wp2
            refine wp_region_gw (by kernel_rfl) (by kernel_rfl) ?_
            repeat (go_big_quiet_step (first | fail))
            refine wpQuiet_nil ?_
            intro _ hw'
            obtain ⟨p4, hw''⟩ := hw'
            subst hw''
            go_wp2
            go_roundw
            case rel =>
              obtain ⟨r', hr'⟩ := back_gw X r p4
              exact ⟨j + 1, r', by omega, by go_num, HP, hr'⟩
            case measure => simp [intOf]; omega
        · obtain rfl : j = k := by omega
          have HP := Lib.hid (HDK.out.succ HDJ.out)
          clear HDK HDJ
          go_wp2
          go_roundw
          case rel => exact ⟨j + 1, r, by omega, by go_num, HP, rfl⟩
          case measure => simp [intOf]; omega
    · obtain rfl : k = l.length := by omega
      have HDI := Lib.hid HDK.out.dist
      have HB1 := Lib.hid (below_gw HB.out HB.out.size r)
      clear HDK HB HS hlt hk
      generalize gw X r = Y at *
      have HS := Lib.hid (HST.out.below HB1.out)
      obtain ⟨i0, z0, HI⟩ := step_info
      have hY := HB1.out.size
      have hmade := World.ownsRow_made (base := w.heap.size) (e := 30) (size := 4) Y #[] 0 (by omega) (by simp [maxLen]) (by simp)
      have HM := Lib.hid hmade
      have hnc := HQ.out.nil
      simp only at hnc
      have HNC := Lib.hid hnc
      clear hmade hnc
      go_wp2_with (at_builtin; refine Stop.here ?_)
      refine Stop.on ?_
      have hY2 : Below w.heap.size w (Y.alloc (.cells #[] 30)) := HB1.out.alloc hY _
      refine wpList_append_row rfl _ _ 41 rfl w.heap.size 30 i0 z0 4 64 rfl HI.out.1 HI.out.2.1 HI.out.2.2.1 HI.out.2.2.2.1 HI.out.2.2.2.2 (by omega) stC_len stC_one _ _ _ rfl HM.out ad cap l HNC.out rfl (HS.out.row.below ((Below.refl _ _).alloc (Nat.le_refl _) _)) (by simp only [maxLen]; omega) (by omega) (by simp; omega) ?_
      intro v' w5 hown hgrow _
      have hb5 : Below w.heap.size w w5 := below_grown hY2 hgrow (by simp; omega) (fun k hk => by cases hk; exact hY)
      simp only [Nat.zero_add, List.nil_append] at hown
      have hmr : ∃ g c, v' = .slice (some ⟨g, 0, none⟩) l.length c ∧ l.length ≤ c ∧ MR w w5 g l l := by
        have ho := hown
        rcases ho.2 with ⟨_, h0⟩ | ⟨g, c, cur, rfl, hlow, hg, h1, _⟩
        · exact absurd h0 hl0
        · exact ⟨g, c, rfl, h1, hb5, hlow, row_own stC_len hown rfl, (Array.getElem?_eq_some_iff.1 hg).1, fun i => by simp [World.frozen?, hg], .refl⟩
      obtain ⟨g, c, rfl, hc, hmr⟩ := hmr
      have HMR0 := Lib.hid hmr
      clear hown hgrow hmr hb5 hY2 HM HB1 HS hY HI
      go_wp2
      go_loopw [8] (fun i wr => ∃ (k : Nat) (M : List PS), k ≤ ss.length ∧ i = .int .i64 k ∧ Hid (MR w wr g l M)) (fun i _ => ss.length - (intOf i).toNat)
      case atStart => exact ⟨0, l, by omega, rfl, HMR0⟩
      case round =>
        clear HMR0
        obtain ⟨k, M, hk, rfl, hmr⟩ := hrel
        have HMR := Lib.hid hmr.out
        clear hmr
        by_cases hlt : k < ss.length
        · have kb : (k : Int) < ss.length := by omega
          obtain ⟨x, hx⟩ := get_some hlt
          obtain ⟨b₁, off₁, rfl, _, hcx⟩ := (HSS.out.below HMR.out.below).get hx
          have e0 := hcx 0 (by omega)
          simp at e0
          have hx256 := HBL.out x (List.mem_of_getElem? hx)
          clear hcx hx
          have hwx : IntKind.i64.wrap (x : Int) = (x : Int) := by rw [IntKind.wrap_i64]; omega
          have hwx1 : IntKind.i64.wrap ((x : Int) + 1) = (x : Int) + 1 := by rw [IntKind.wrap_i64]; omega
          by_cases hxl : x + 1 < l.length
          · have hd1 : decide ((x : Int) + 1 < (l.length : Int)) = true := by simp; omega
            have hml := HMR.out.len
            obtain ⟨⟨ag, ac, aga, ags, agc, ata, ats, atc⟩, ha⟩ := get_some (show x < M.length by omega)
            obtain ⟨⟨cg, cc, cga, cgs, cgc, cta, cts, ctc⟩, hb⟩ := get_some (show x + 1 < M.length by omega)
            obtain ⟨b₂, off₂, e, hog, hca⟩ := HMR.out.row.get ha
            cases e
            obtain ⟨b₃, off₃, e, _, hcb⟩ := HMR.out.row.get hb
            cases e
            have f0 := hca 0 (by omega)
            have f1 := hca 1 (by omega)
            have f2 := hca 2 (by omega)
            have f3 := hca 3 (by omega)
            have g0 := hcb 0 (by omega)
            have g1 := hcb 1 (by omega)
            have g2 := hcb 2 (by omega)
            have g3 := hcb 3 (by omega)
            simp at f0 f1 f2 f3 g0 g1 g2 g3
            have HA := Lib.hid ha
            have HBB := Lib.hid hb
            have hrd := HMR.out.rd HST.out.rd
            have hdp := fun r => dependR_any _ _ (gw wr r) ((hrd _ (List.mem_of_getElem? ha)).gw r) ((hrd _ (List.mem_of_getElem? hb)).gw r)
            clear ha hb hca hcb hml hrd
            have ix1 : (0 : Int) ≤ (x : Int) + 1 := by omega
            have ix2 : ((x : Int) + 1).toNat = x + 1 := by omega
            have ix3 : (x : Int) < (l.length : Int) := by omega
            have ix4 : (x : Int) + 1 < (l.length : Int) := by omega
            obtain ⟨d, he⟩ : ∃ d, dep ⟨ag, ac, aga, ags, agc, ata, ats, atc⟩ ⟨cg, cc, cga, cgs, cgc, cta, cts, ctc⟩ = d := ⟨_, rfl⟩
            rw [he] at hdp
            have HD := Lib.hid hdp
            have HE := Lib.hid he
            clear hdp he
            cases d
            · go_wp2
              refine wp_region_gw (by kernel_rfl) (by kernel_rfl) ?_
              repeat (go_big_quiet_step (first | (go_at_call 18; exact Gives.call (HD.out _))))
              refine wpQuiet_nil ?_
              intro _ hw'
              obtain ⟨p4, hw''⟩ := hw'
              subst hw''
              have HMZ := Lib.hid (HMR.out.gw p4)
              clear HD HMR f0 f1 f2 f3 g0 g1 g2 g3 hog e0
              generalize gw wr p4 = Z at *
              obtain ⟨b₂, off₂, e, hog, hca⟩ := HMZ.out.row.get HA.out
              cases e
              obtain ⟨b₃, off₃, e, _, hcb⟩ := HMZ.out.row.get HBB.out
              cases e
              have f0 := hca 0 (by omega)
              have f1 := hca 1 (by omega)
              have f2 := hca 2 (by omega)
              have f3 := hca 3 (by omega)
              have g0 := hcb 0 (by omega)
              have g1 := hcb 1 (by omega)
              have g2 := hcb 2 (by omega)
              have g3 := hcb 3 (by omega)
              simp at f0 f1 f2 f3 g0 g1 g2 g3
              have hfz : ∀ i, World.frozen? Z ⟨g, i, none⟩ = false := HMZ.out.fz
              clear hca hcb
              go_wp2
              go_roundw
              case rel => exact ⟨k + 1, _, by omega, by go_num, Lib.hid ((HMZ.out.put HA.out HBB.out HE.out).then ((Below.refl _ _).alloc (Nat.le_refl _) _))⟩
              case measure => simp [intOf]; omega
            · go_wp2
              refine wp_region_gw (by kernel_rfl) (by kernel_rfl) ?_
              repeat (go_big_quiet_step (first | (go_at_call 18; exact Gives.call (HD.out _))))
              refine wpQuiet_nil ?_
              intro _ hw'
              obtain ⟨p4, hw''⟩ := hw'
              subst hw''
              go_wp2
              go_roundw
              case rel => exact ⟨k + 1, M, by omega, by go_num, Lib.hid (HMR.out.gw p4)⟩
              case measure => simp [intOf]; omega
          · have hd1 : decide ((x : Int) + 1 < (l.length : Int)) = false := by simp; omega
            go_wp2
            refine wp_region_gw (by kernel_rfl) (by kernel_rfl) ?_
            repeat (go_big_quiet_step (first | fail))
            refine wpQuiet_nil ?_
            intro _ hw'
            obtain ⟨p4, hw''⟩ := hw'
            subst hw''
            go_wp2
            go_roundw
            case rel => exact ⟨k + 1, M, by omega, by go_num, Lib.hid (HMR.out.gw p4)⟩
            case measure => simp [intOf]; omega
        · have HSX := Lib.hid (HST.out.below HMR.out.below)
          have HL0 := Lib.hid (lies_t00 w wr)
          go_wp2_with (go_at_call 15; refine Stop.here ?_)
          refine Stop.on ?_
          have hcp := HQ.out.cap
          simp only at hcp
          refine (insertP_any w t00 wr l ad cap (by simp [nodes, nodesL]) HL0.out HMR.out.below HSX.out.row HST.out.rd hcp HNC.out (by omega)).mono ?_
          rintro e w6 ⟨u, p5, rfl, rfl, hsh, hlu, _⟩
          rw [ins_new (fun e => hl0 (by rw [e]; rfl))] at hsh
          have HSH := Lib.hid hsh
          have HMR6 := Lib.hid (HMR.out.gw p5)
          have HLU := Lib.hid hlu
          clear HMR HL0 HSX hsh hlu hlt hk
          generalize gw wr p5 = Y6 at *
          have hrow := heap_alloc_at' Y6 (.cells (trC u).toArray 33) Y6.heap.size rfl
          have HT := Lib.hid (show TW w (Y6.alloc (.cells (trC u).toArray 33)) Y6.heap.size u from ⟨HMR6.out.below.alloc HMR6.out.below.size _, HMR6.out.below.size, hrow, HLU.out.below ((Below.refl _ _).alloc (Nat.le_refl _) _), Avoid.of_lies HLU.out (Nat.le_refl _)⟩)
          have HMR7 := Lib.hid (HMR6.out.then ((Below.refl _ _).alloc (Nat.le_refl _) (.cells (trC u).toArray 33)))
          clear hrow HLU
          have hcu : cnt (sh u) ≤ 9 := by rw [HSH.out]; simp [cnt, cnt_chain]; omega
          have HCU := Lib.hid hcu
          clear hcu
          have HLV := Lib.hid (show lvK [] (sh u).ks = [l] by rw [HSH.out]; exact lvK_one (fun e => hl0 (by rw [e]; rfl)))
          go_wp2_with (go_at_call 13; refine Stop.here ?_)
          refine Stop.on ?_
          refine (pathsV_any w _ u HT.out.lies HT.out.below (by have := HCU.out; omega)).mono ?_
          rintro e w7 ⟨aA, psA, cA, rfl, hA, hpA, rA, rfl⟩
          rw [HLV.out] at hA
          have HA := Lib.hid hA
          have HPA := Lib.hid hpA
          have HT8 := Lib.hid (HT.out.gw rA)
          have HMR8 := Lib.hid (HMR7.out.gw rA)
          have hl1 : psA.length = 1 := by have := congrArg List.length hA; simpa using this
          clear hA hpA HT HMR7 HMR6
          generalize gw (Y6.alloc (.cells (trC u).toArray 33)) rA = Y8 at *
          generalize Y6.heap.size = B at *
          have hqp : ∀ (V : World) (ad' : Option Addr) (n : Nat), Below w.heap.size w V → n = V.heap.size → Pths (V.alloc (.cells #[.slice ad l.length cap] 41)) (some ⟨n, 0, none⟩) [⟨ad, l, cap⟩] := fun V ad' n hV hn => by
            subst hn
            refine ⟨Row.of_block paC_len (heap_alloc_at' _ _ _ rfl) (by simp), fun q hq => ?_⟩
            rw [List.mem_singleton.1 hq]
            exact ⟨HST.out.below (hV.alloc hV.size _), by simp only; omega⟩
          have HQP := Lib.hid hqp
          have HSP := Lib.hid (fun q => samePaths_any aA (some ⟨Y8.heap.size, 0, none⟩) psA [⟨ad, l, cap⟩] cA 1 (Y8.alloc (.cells #[.slice ad l.length cap] 41)) (HPA.out.below ((Below.refl _ _).alloc (Nat.le_refl _) _)) (hqp Y8 q _ HT8.out.below rfl) (by omega) (by simp))
          rw [show eqL sameP psA [⟨ad, l, cap⟩] = true from samePs_refl (HA.out.trans rfl)] at HSP
          clear hqp hl1
          go_wp2_with (go_at_call 12; refine Stop.here ?_)
          refine Stop.on ?_
          refine (HSP.out none).mono ?_
          rintro e w8 ⟨rfl, p8, rfl⟩
          have hb9 : Below Y8.heap.size Y8 (gw (Y8.alloc (.cells #[.slice ad l.length cap] 41)) p8) := below_gw ((Below.refl _ _).alloc (Nat.le_refl _) _) (by simp) p8
          have HT9 := Lib.hid (HT8.out.mono hb9)
          have HMR9 := Lib.hid (HMR8.out.then hb9)
          clear HT8 HMR8 HSP HPA hb9
          generalize gw (Y8.alloc (.cells #[.slice ad l.length cap] 41)) p8 = Y9 at *
          obtain ⟨c0, c1, c2, c3, c4, oB⟩ := HT9.out.tb.cells
          have hin := insertP_any w u Y9 M (some ⟨g, 0, none⟩) c (by rw [nodes_cnt]; have := HCU.out; omega) HT9.out.lies HT9.out.below HMR9.out.row (fun s hs => HST.out.rd s (HMR9.out.eqv.perm.mem_iff.2 hs)) (by rw [HMR9.out.len]; exact hc) (fun h => by cases h) (by rw [HMR9.out.len]; omega)
          rw [HMR9.out.len, show insT (sh u) M true = sh u by rw [HSH.out]; exact insT_eqv l M HMR9.out.eqv (HMR9.out.eqv.dist HDI.out) _ _] at hin
          have HIN := Lib.hid hin
          clear hin
          go_wp2_with (go_at_call 15; refine Stop.here ?_)
          refine Stop.on ?_
          refine HIN.out.mono ?_
          rintro e w10 ⟨u', p9, rfl, rfl, hsh2, hlu2, _⟩
          have HSH2 := Lib.hid hsh2
          have hb10 : Below w.heap.size w (gw Y9 p9) := below_gw HT9.out.below HT9.out.below.size p9
          have HLU2 := Lib.hid hlu2
          have HB10 := Lib.hid hb10
          clear hsh2 hlu2 hb10 c0 c1 c2 c3 c4 oB HIN HMR9 HT9
          generalize gw Y9 p9 = Y10 at *
          go_wp2_with (go_at_call 13; refine Stop.here ?_)
          refine Stop.on ?_
          refine (pathsV_any w Y10 u' HLU2.out HB10.out (by rw [HSH2.out]; have := HCU.out; omega)).mono ?_
          rintro e w11 ⟨aC, psC, cC, rfl, hC, hpC, rC, rfl⟩
          rw [HSH2.out, HLV.out] at hC
          have hl2 : psC.length = 1 := by have := congrArg List.length hC; simpa using this
          have HB11 := Lib.hid (below_gw HB10.out HB10.out.size rC)
          have hsp := samePaths_any aC (some ⟨(gw Y10 rC).heap.size, 0, none⟩) psC [⟨ad, l, cap⟩] cC 1 ((gw Y10 rC).alloc (.cells #[.slice ad l.length cap] 41)) (hpC.below ((Below.refl _ _).alloc (Nat.le_refl _) _)) (HQP.out (gw Y10 rC) none _ HB11.out rfl) (by omega) (by simp)
          rw [show eqL sameP psC [⟨ad, l, cap⟩] = true from samePs_refl (hC.trans rfl)] at hsp
          have HSP2 := Lib.hid hsp
          clear hsp hC hpC hl2 HLU2 HB10
          generalize gw Y10 rC = Y11 at *
          go_wp2_with (go_at_call 12; refine Stop.here ?_)
          refine Stop.on ?_
          refine HSP2.out.mono ?_
          rintro e w12 ⟨rfl, p12, rfl⟩
          have HBE := Lib.hid (below_gw (HB11.out.alloc HB11.out.size (.cells #[.slice ad l.length cap] 41)) (by have := HB11.out.size; simp; omega) p12)
          go_wp2
          go_ret; exact Gives.mk rfl (by have hb' := HBE.out; have hs' := HBE.out.size; repeat (first | exact hb' | refine below_gw ?_ (by first | (simp; done) | (simp; omega) | omega) _ | refine Below.alloc ?_ (by first | (simp; done) | (simp; omega) | omega) _ | refine Below.setCell ?_ (by first | (simp; done) | (simp; omega) | omega) | refine Below.drew ?_))
end Go.Proofs.Ytmgiojkdcpolfaa
