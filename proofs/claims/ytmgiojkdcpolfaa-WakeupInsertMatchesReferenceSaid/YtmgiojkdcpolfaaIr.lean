/- WakeupInsertMatchesReference: the walk. -/
import Derived.Test.YtmgiojkdcpolfaaGg
namespace Go.Proofs.Ytmgiojkdcpolfaa
open Go.RowKit Go.Sort PT

theorem refPaths_any (ad : Option Addr) (u : List Nd) (cap : Nat) (t : T) (w : World) (hN : Nds w ad u) (hu : u.length ≤ 500) (hR : RepT (u.map en) [] t) (hc : cnt t ≤ 900) :
    Calls Try.prog 14 #[.slice ad u.length cap] w (PathsR w none (lvK [] t.ks) w) := by
  have hp := pathsR_any w ad u cap hN hu 900 t [] none 0 [] none 0 w hc (Nat.le_refl _) (Below.refl _ _) hR (Row.nil _) (by simp) (Row.nil _) (fun s hs => (by cases hs)) (by simp) (fun _ => rfl)
  simp only [List.length_nil] at hp
  rw [show pspec [] t [] = lvK [] t.ks by rw [pspec]; simp] at hp
  have HP := Lib.hid hp
  clear hp hN hR
  go_enter Try.func14, Try.ntmps14
  go_wp2_with (go_at_call 36; refine Stop.here ?_)
  refine Stop.on ?_
  refine HP.out.mono ?_
  intro e w' h
  obtain ⟨v, rfl, h1⟩ := h
  have HV := Lib.hid h1
  clear h1
  go_wp2
  go_ret
  exact ⟨v, rfl, HV.out⟩

set_option maxRecDepth 100000 in
set_option maxHeartbeats 2000000 in
theorem insertMatches_any (ad : Option Addr) (ps : List PA) (cap : Nat) (w : World) (hr : Row 1 paC w ad ps) (hs : ∀ q ∈ ps, SeqU w q) :
    Calls Try.prog 3 #[.slice ad ps.length cap] w (Gives (.bool true) w) := by
  have HR := Lib.hid hr
  have HS := Lib.hid hs
  clear hr hs
  have HFW := Lib.hid (fun q => few_any ad ps cap (gw w q) (HR.out.gw q) (fun x hx => ((HS.out x hx).row.gw q)))
  obtain ⟨d, hd⟩ : ∃ d, few ps = d := ⟨_, rfl⟩
  rw [hd] at HFW
  cases d
  · go_enter Try.func3, Try.ntmps3
    go_wp2_with (first | (go_at_call 9; (with_reducible refine (awake_any _).mono ?_); rintro e w1 ⟨rfl, p1, rfl⟩) | (go_at_call 10; (with_reducible refine (HFW.out _).mono ?_); rintro e w1 ⟨rfl, p2, rfl⟩))
    have HB := Lib.hid (below_gw (gw_below w p1) (by simp) p2)
    go_ret; exact Gives.mk rfl (by have hb' := HB.out; have hs' := HB.out.size; repeat (first | exact hb' | refine below_gw ?_ (by first | (simp; done) | (simp; omega) | omega) _ | refine Below.alloc ?_ (by first | (simp; done) | (simp; omega) | omega) _ | refine Below.setCell ?_ (by first | (simp; done) | (simp; omega) | omega) | refine Below.drew ?_))
  have HSF := Lib.hid (seqF_of hd HS.out)
  have hps := (few_spec hd).1
  clear HS hd
  go_enter Try.func3, Try.ntmps3
  go_wp2_with (first | (go_at_call 9; (with_reducible refine (awake_any _).mono ?_); rintro e w1 ⟨rfl, p1, rfl⟩) | (go_at_call 10; (with_reducible refine (HFW.out _).mono ?_); rintro e w1 ⟨rfl, p2, rfl⟩) | (go_at_call 11; refine Stop.here ?_))
  refine Stop.on ?_
  have hb2 : Below w.heap.size w (gw (gw w p1) p2) := below_gw (gw_below w p1) (by simp) p2
  refine (grow50_any ad ps cap _ (HR.out.below hb2) (fun q hq => ⟨(HSF.out q hq).row.below hb2, (HSF.out q hq).cap, (HSF.out q hq).nil, fun s hs => ((HSF.out q hq).rd s hs).below hb2, (HSF.out q hq).len⟩) hps).mono ?_
  rintro e w3 ⟨t, au, u, cu, rfl, hl, hn, hrep, hct, hul, hb⟩
  have HB2 := Lib.hid hb2
  have HL := Lib.hid hl
  have HN := Lib.hid hn
  have HREP := Lib.hid hrep
  have HB3 := Lib.hid hb
  clear hl hn hrep hb hb2 HFW
  generalize gw (gw w p1) p2 = X at *
  have HTW := Lib.hid (show TB X (w3.alloc (.cells (trC t).toArray 33)) w3.heap.size t from TB.new HL.out)
  have HB4 := Lib.hid (show Below X.heap.size X (w3.alloc (.cells (trC t).toArray 33)) from HB3.out.alloc HB3.out.size _)
  go_wp2_with (go_at_call 13; refine Stop.here ?_)
  refine Stop.on ?_
  refine (pathsV_any X _ t HTW.out.lies HB4.out (by omega)).mono ?_
  rintro e w4 ⟨aA, psA, cA, rfl, hA, hpA, rA, rfl⟩
  have HA := Lib.hid hA
  have HPA := Lib.hid hpA
  have HB5 := Lib.hid (below_gw HB4.out HB4.out.size rA)
  have HN5 := Lib.hid ((HN.out.below ((Below.refl _ _).alloc (Nat.le_refl _) (.cells (trC t).toArray 33))).below (gw_below _ rA))
  clear hA hpA HTW HB4 HN
  generalize gw (w3.alloc (.cells (trC t).toArray 33)) rA = Y at *
  go_wp2_with (go_at_call 14; refine Stop.here ?_)
  refine Stop.on ?_
  refine (refPaths_any au u cu (sh t) Y HN5.out (by omega) HREP.out (by omega)).mono ?_
  rintro e w5 ⟨v, rfl, ⟨aB, psB, cB, rfl, hB, hrB, _, hB2⟩, hb⟩
  have hlen : psA.length ≤ 900 := by
    have h1 := congrArg List.length HA.out
    simp only [List.length_map] at h1
    have := lvK_len [] (sh t).ks
    have := cnt_ks (sh t)
    omega
  have hlen2 : psB.length ≤ 900 := by
    have h1 := congrArg List.length hB
    simp only [List.length_map] at h1
    have := lvK_len [] (sh t).ks
    have := cnt_ks (sh t)
    omega
  have hsp := samePaths_any aA aB psA psB cA cB w5 (HPA.out.below hb) ⟨hrB, fun x hx => ⟨⟨(hB2 x hx).1, fun s hs => ((hB2 x hx).2.2.1 s hs).below hb⟩, (hB2 x hx).2.1⟩⟩ (by omega) (by omega)
  rw [show eqL sameP psA psB = true from samePs_refl (HA.out.trans hB.symm)] at hsp
  have HSP := Lib.hid hsp
  have HB6 := Lib.hid (HB2.out.trans ((HB5.out.trans (hb.mono HB5.out.size)).mono HB2.out.size))
  clear hsp hlen hlen2 hB hrB hB2 hb
  go_wp2_with (go_at_call 12; refine Stop.here ?_)
  refine Stop.on ?_
  refine HSP.out.mono ?_
  rintro e w6 ⟨rfl, p6, rfl⟩
  go_wp2
  go_ret; exact Gives.mk rfl (by have hb' := HB6.out; have hs' := HB6.out.size; repeat (first | exact hb' | refine below_gw ?_ (by first | (simp; done) | (simp; omega) | omega) _ | refine Below.alloc ?_ (by first | (simp; done) | (simp; omega) | omega) _ | refine Below.setCell ?_ (by first | (simp; done) | (simp; omega) | omega) | refine Below.drew ?_))
end Go.Proofs.Ytmgiojkdcpolfaa
