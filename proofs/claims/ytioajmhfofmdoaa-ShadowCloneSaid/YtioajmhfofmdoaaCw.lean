/- ShadowClone: the walk. -/
import Derived.Test.YtioajmhfofmdoaaCe
namespace Go.Proofs.Ytioajmhfofmdoaa
open Go.RowKit Go.Sort Go.Maps

set_option maxRecDepth 100000 in
set_option maxHeartbeats 4000000 in
theorem clones_any (vo va vb : Value) (L A C : List OpT) (w : World) (ho : OpsAt w.heap.size w vo L) (hb : ∀ e ∈ L, I64 e.1 ∧ I64 e.2.1) (hoa : OpsAt w.heap.size w va A) (hba : ∀ e ∈ A, I64 e.1 ∧ I64 e.2.1) (hob : OpsAt w.heap.size w vb C) (hbb : ∀ e ∈ C, I64 e.1 ∧ I64 e.2.1)
    (sL : L.length ≤ 2000000000000) (sA : A.length ≤ 2000000000000) (sC : C.length ≤ 2000000000000) :
    Calls Try.prog 7 #[vo, va, vb] w (Gives (.bool true) w) := by
  have HO := Lib.hid ho
  have HBD := Lib.hid hb
  have HOA := Lib.hid hoa
  have HBA := Lib.hid hba
  have HOC := Lib.hid hob
  have HBC := Lib.hid hbb
  clear hb hba hbb
  obtain ⟨ad, cap, rfl, hrow⟩ := ho
  obtain ⟨ada, capa, rfl, hrowa⟩ := hoa
  obtain ⟨adb, capb, rfl, hrowb⟩ := hob
  clear hrow hrowa hrowb
  have m1 : IntKind.i64.wrap ((L.length : Int) + A.length) = (L.length : Int) + A.length := by rw [IntKind.wrap_i64]; omega
  have m2 : IntKind.i64.wrap ((L.length : Int) + A.length + C.length) = (L.length : Int) + A.length + C.length := by rw [IntKind.wrap_i64]; omega
  by_cases hgt : 90 < L.length + A.length + C.length
  · have hd : decide ((90 : Int) < (L.length : Int) + A.length + C.length) = true := by simp; omega
    go_enter Try.func7, Try.ntmps7
    go_wp2_with (go_at_call 9; refine (awake_any _).mono ?_; rintro e w1 ⟨rfl, p1, rfl⟩)
    go_ret; exact Gives.mk rfl (by repeat (first | exact Below.refl _ _ | refine below_gw ?_ (by simp; try omega) _ | refine Below.alloc ?_ (by simp; try omega) _ | refine Below.setCell ?_ (by simp; try omega) _ | refine Below.drew ?_))
  have hd : decide ((90 : Int) < (L.length : Int) + A.length + C.length) = false := by simp; omega
  go_enter Try.func7, Try.ntmps7
  go_wp2_with (first | (go_at_call 9; refine (awake_any _).mono ?_; rintro e w1 ⟨rfl, p1, rfl⟩) | (go_at_call 10; refine Stop.here ?_))
  refine Stop.on ?_
  have hb0 : Below w.heap.size w (gw w p1) := gw_below w p1
  refine (newH_any _).mono ?_
  rintro e w1 ⟨bm, bp, tk, rfl, hb1, hm⟩
  have HRun := Lib.hid (show Run0 L w w1 (gw w p1).heap.size bm bp tk (.slice none 0 0) 0 0 [] from
    ⟨hm, ⟨⟨none, 0, rfl, fun h => absurd h (by simp)⟩, fun _ _ _ _ e => by cases e⟩, good_nil, fits_nil, by simp, by omega, hb0.trans (hb1.mono hb0.size), hb0.size, fun _ h => by cases h⟩)
  clear hb0 hb1 hm
  generalize (gw w p1).heap.size = B at *
  go_wp2
  go_loopw [8, 31] (fun vn i wr => ∃ (k n : Nat) (l : List Ent), k ≤ L.length ∧ i = .int .i64 k ∧ Run0 L w wr B bm bp tk vn k n l) (fun _ i _ => L.length - (intOf i).toNat)
  case atStart => exact ⟨0, 0, [], by omega, rfl, HRun.out⟩
  case round =>
    obtain ⟨k, n, l, hk, rfl, hrun⟩ := hrel
    by_cases hlt : k < L.length
    · as_aux_lemma =>
      have HR := hlt
      have HN := Lib.hid hrun
      clear hrun HRun
      have hops := HO.out.below HN.out.below
      obtain ⟨_, _, he, hops⟩ := hops
      cases he
      obtain ⟨bo, off, rfl, hbo, hold, hcs⟩ := hops (by omega)
      have hold' := hold.lt
      have f0 := hcs k hlt 0 (by omega)
      have f1 := hcs k hlt 1 (by omega)
      have f2 := hcs k hlt 2 (by omega)
      have f3 := hcs k hlt 3 (by omega)
      have f4 := hcs k hlt 4 (by omega)
      have f5 := hcs k hlt 5 (by omega)
      have f6 := hcs k hlt 6 (by omega)
      have f7 := hcs k hlt 7 (by omega)
      have f8 := hcs k hlt 8 (by omega)
      have f9 := hcs k hlt 9 (by omega)
      have f10 := hcs k hlt 10 (by omega)
      have f11 := hcs k hlt 11 (by omega)
      have f12 := hcs k hlt 12 (by omega)
      have f13 := hcs k hlt 13 (by omega)
      have f14 := hcs k hlt 14 (by omega)
      have f15 := hcs k hlt 15 (by omega)
      have kb : (k : Int) < L.length := by omega
      have hbd := Lib.hid (HBD.out _ (List.getElem_mem hlt))
      have hLk := Lib.hid (show L[k]? = some L[k] from List.getElem?_eq_getElem hlt)
      clear hcs hops
      generalize L[k] = e at *
      obtain ⟨o, f, x, d⟩ := e
      simp at f0 f1 f2 f3 f4 f5 f6 f7 f8 f9 f10 f11 f12 f13 f14 f15
      go_wp2_with (go_at_call 11; refine Stop.here ?_)
      refine Stop.on ?_
      have hw : Below wr.heap.size wr (wr.alloc (.cells (opC (o, f, x, d)).toArray 39)) := (by repeat (first | exact Below.refl _ _ | refine below_gw ?_ (by simp; try omega) _ | refine Below.alloc ?_ (by simp; try omega) _ | refine Below.setCell ?_ (by simp; try omega) _ | refine Below.drew ?_))
      have g1 := heap_alloc_at' wr (.cells (opC (o, f, x, d)).toArray 39) wr.heap.size rfl
      have h1 := HN.out.holds.below hw
      obtain ⟨es, ck, m1⟩ := h1.isMap
      refine (doH_any h1 o f x d hbd.out.1 hbd.out.2 (by have := HN.out.cnt; omega)).mono ?_
      rintro e w2 ⟨rfl, n2, hn2, h2, fr2, hb2⟩
      have HG1 := Lib.hid (fr2.row m1 g1 (by decide))
      have HE1 := Lib.hid (fr2.ent m1 (HN.out.ent.below hw))
      have HB1 := Lib.hid (HN.out.below.trans ((hw.mono HN.out.below.size).trans (hb2.mono HN.out.lo)))
      have HH1 := Lib.hid h2
      have HC1 := Lib.hid (show n2 ≤ k + 1 by have := HN.out.cnt; omega)
      clear hw g1 h1 m1 fr2 hb2 h2 hn2
      clear f0 f1 f2 f3 f4 f5 f6 f7 f8 f9 f10 f11 f12 f13 f14 f15
      generalize wr.heap.size = ob at *
      have g0 := row_cells HG1.out 0
      have g1 := row_cells HG1.out 1
      have g2 := row_cells HG1.out 2
      have g3 := row_cells HG1.out 3
      have g4 := row_cells HG1.out 4
      have g5 := row_cells HG1.out 5
      have g6 := row_cells HG1.out 6
      have g7 := row_cells HG1.out 7
      have g8 := row_cells HG1.out 8
      have g9 := row_cells HG1.out 9
      have g10 := row_cells HG1.out 10
      have g11 := row_cells HG1.out 11
      have g12 := row_cells HG1.out 12
      have g13 := row_cells HG1.out 13
      have g14 := row_cells HG1.out 14
      have g15 := row_cells HG1.out 15
      simp at g0 g1 g2 g3 g4 g5 g6 g7 g8 g9 g10 g11 g12 g13 g14 g15
      have og : Old ob _ := (Array.getElem?_eq_some_iff.1 HG1.out).1
      go_wp2_with (go_at_call 12; refine Stop.here ?_)
      refine Stop.on ?_
      refine (doR_any _ l o f x d _ HE1.out (by have := HN.out.len; omega)).mono ?_
      rintro e w3 ⟨v', rfl, hb3, he3⟩
      have HN3 := Lib.hid (show Run0 L w w3 B bm bp tk v' (k + 1) n2 (doM l (chOf o f x d)) from
        ⟨HH1.out.below hb3, he3, good_do HN.out.good _ _ _ _, fits_do HN.out.fits _ _ _ _ hbd.out.1 hbd.out.2, by have := HN.out.len; have := do_len (l := l) o f x d; omega, HC1.out, HB1.out.trans (hb3.mono HB1.out.size), HN.out.lo, obs_do HN.out.obs hLk.out⟩)
      clear hb3 he3 HG1 HE1 HB1 HH1 HC1 HN
      clear g0 g1 g2 g3 g4 g5 g6 g7 g8 g9 g10 g11 g12 g13 g14 g15 og
      generalize doM l (chOf o f x d) = l3 at *
      go_wp2
      go_roundw
      case rel => exact ⟨k + 1, n2, l3, by omega, by go_num, HN3.out⟩
      case measure => simp [intOf]; omega
    · have hkl : k = L.length := by omega
      subst hkl
      have HN := Lib.hid hrun
      clear hrun HRun hlt
      go_wp2_with (go_at_call 22; refine Stop.here ?_)
      refine Stop.on ?_
      refine (cloneH_any HN.out.holds).mono ?_
      rintro e w2 ⟨bx, bpx, t1, t2, rfl, k2, b2, hm2, hx2, ge1, ge2, ge3, ge4, ne12⟩
      go_wp2_with (go_at_call 22; refine Stop.here ?_)
      refine Stop.on ?_
      refine (cloneH_any hx2).mono ?_
      rintro e w3 ⟨by_, bpy, t3, t4, rfl, k3, b3, hx3, hy3, ge5, ge6, ge7, ge8, ne34⟩
      have HN3 := Lib.hid (show Run3 w w3 B (fun t => t = tk ∨ t = t1) (fun t => (t = tk ∨ t = t2) ∨ t = t3) (fun t => (t = tk ∨ t = t2) ∨ t = t4) bm bp t1 bx bpx t3 by_ bpy t4 u8 u8 u8 L.length n n n l l l l l from by
        obtain ⟨Dm, Mm, a1, a2⟩ := HN.out.holds
        obtain ⟨Dx, Mx, x1, x2⟩ := hx2
        obtain ⟨Dm2, Mm2, y1, y2⟩ := hm2
        have s1 := (Array.getElem?_eq_some_iff.1 a1.cell).1
        have s2 := a1.own.lt
        have s3 : tk < wr.heap.size := by obtain ⟨c, hc⟩ := a1.toks tk rfl; exact (Array.getElem?_eq_some_iff.1 hc).1
        have s4 := (Array.getElem?_eq_some_iff.1 x1.cell).1
        have s5 := x1.own.lt
        have s6 : t2 < w2.heap.size := by obtain ⟨c, hc⟩ := x1.toks t2 (.inr rfl); exact (Array.getElem?_eq_some_iff.1 hc).1
        have s7 : t1 < w2.heap.size := by obtain ⟨c, hc⟩ := y1.toks t1 (.inr rfl); exact (Array.getElem?_eq_some_iff.1 hc).1
        have s8 := b2.size
        have he2 := HN.out.ent.but k2 b2.size a1.cell
        have he3 := he2.but k3 b3.size x1.cell
        exact ⟨⟨Dm2, Mm2, y1.but k3 x1.cell (by omega), y2⟩, hx3, hy3, he3, he3, he3, HN.out.good, HN.out.good, HN.out.good, HN.out.fits, HN.out.fits, HN.out.fits,
          HN.out.len, HN.out.len, HN.out.len, HN.out.cnt, HN.out.cnt, HN.out.cnt, (HN.out.below.trans (b2.mono HN.out.lo)).trans (b3.mono HN.out.lo), HN.out.lo,
          ⟨by omega, by omega, by omega, by simp; omega, by simp; omega, by simp; omega, by simp; omega⟩⟩)
      clear k2 k3 b2 b3 hm2 hx2 hx3 hy3 ge1 ge2 ge3 ge4 ge5 ge6 ge7 ge8 ne12 ne34 HN
      generalize (fun t => t = tk ∨ t = t1) = Tm at *
      generalize (fun t => (t = tk ∨ t = t2) ∨ t = t3) = Tx at *
      generalize (fun t => (t = tk ∨ t = t2) ∨ t = t4) = Ty at *
      go_wp2
      have hN : max (A.length : Int) C.length = ((max A.length C.length : Nat) : Int) := by omega
      have hN1 : A.length ≤ max A.length C.length := by omega
      have hN2 : C.length ≤ max A.length C.length := by omega
      have hN3 : max A.length C.length ≤ 90 := by omega
      have hN4 : max A.length C.length ≤ A.length ∨ max A.length C.length ≤ C.length := by omega
      have hL90 : L.length ≤ 90 := by omega
      rw [hN]
      generalize max A.length C.length = N at *
      clear hN m1 m2 hd hgt sL sA sC
      go_loopw [14, 15, 54] (fun vu vv i wr => ∃ (k nm nx : Nat) (au av : List Ent), k ≤ N ∧ i = .int .i64 k ∧ Run3 w wr B Tm Tx Ty bm bp t1 bx bpx t3 by_ bpy t4 vu vv u8 (L.length + 4 * k) nm nx n au au av av l) (fun _ _ i _ => N - (intOf i).toNat)
      case atStart => exact ⟨0, n, n, l, l, by omega, rfl, HN3.out⟩
      case round =>
        obtain ⟨k, nm, nx, au, av, hkN, rfl, hrun⟩ := hrel
        have HN := Lib.hid hrun
        clear hrun HN3
        by_cases hltN : k < N
        · have kbN : (k : Int) < N := by omega
          by_cases hA : k < A.length <;> by_cases hC : k < C.length
          · as_aux_lemma =>
            have kbA : (k : Int) < A.length := by omega
            have kbC : (k : Int) < C.length := by omega
            obtain ⟨bo, off, cap', hvv⟩ := HOA.out.some (by omega)
            cases hvv
            obtain ⟨⟨o, f, x, d⟩, hk⟩ : ∃ e : OpT, A[k]? = some e := ⟨_, List.getElem?_eq_getElem hA⟩
            have hbd := Lib.hid (HBA.out _ (List.mem_of_getElem? hk))
            have HLK := Lib.hid hk
            clear hk
            obtain ⟨hold', hcs⟩ := (HOA.out.below HN.out.below).cells HLK.out
            have f0 := hcs 0 (by omega)
            have f1 := hcs 1 (by omega)
            have f2 := hcs 2 (by omega)
            have f3 := hcs 3 (by omega)
            have f4 := hcs 4 (by omega)
            have f5 := hcs 5 (by omega)
            have f6 := hcs 6 (by omega)
            have f7 := hcs 7 (by omega)
            have f8 := hcs 8 (by omega)
            have f9 := hcs 9 (by omega)
            have f10 := hcs 10 (by omega)
            have f11 := hcs 11 (by omega)
            have f12 := hcs 12 (by omega)
            have f13 := hcs 13 (by omega)
            have f14 := hcs 14 (by omega)
            have f15 := hcs 15 (by omega)
            clear hcs
            simp at f0 f1 f2 f3 f4 f5 f6 f7 f8 f9 f10 f11 f12 f13 f14 f15
            go_wp2_with (go_at_call 11; refine Stop.here ?_)
            refine Stop.on ?_
            refine (doH_any HN.out.hm o f x d hbd.out.1 hbd.out.2 (by have := HN.out.cm; omega)).mono ?_
            rintro e w2 ⟨rfl, n2, hn2, h2, fr2, hb2⟩
            have HM := Lib.hid (HN.out.stepM hn2 h2 fr2 hb2)
            clear h2 fr2 hb2 hn2 HN hold'
            clear f0 f1 f2 f3 f4 f5 f6 f7 f8 f9 f10 f11 f12 f13 f14 f15
            obtain ⟨hold', hcs⟩ := (HOA.out.below HM.out.below).cells HLK.out
            have f0 := hcs 0 (by omega)
            have f1 := hcs 1 (by omega)
            have f2 := hcs 2 (by omega)
            have f3 := hcs 3 (by omega)
            have f4 := hcs 4 (by omega)
            have f5 := hcs 5 (by omega)
            have f6 := hcs 6 (by omega)
            have f7 := hcs 7 (by omega)
            have f8 := hcs 8 (by omega)
            have f9 := hcs 9 (by omega)
            have f10 := hcs 10 (by omega)
            have f11 := hcs 11 (by omega)
            have f12 := hcs 12 (by omega)
            have f13 := hcs 13 (by omega)
            have f14 := hcs 14 (by omega)
            have f15 := hcs 15 (by omega)
            clear hcs
            simp at f0 f1 f2 f3 f4 f5 f6 f7 f8 f9 f10 f11 f12 f13 f14 f15
            go_wp2_with (go_at_call 12; refine Stop.here ?_)
            refine Stop.on ?_
            refine (doR_any _ au o f x d _ HM.out.eu (by have := HM.out.lu; omega)).mono ?_
            rintro e w3 ⟨v', rfl, hb3, he3⟩
            have HN := Lib.hid (HM.out.stepU hb3 he3 hbd.out.1 hbd.out.2)
            clear hb3 he3 HM hold'
            clear f0 f1 f2 f3 f4 f5 f6 f7 f8 f9 f10 f11 f12 f13 f14 f15
            generalize doM au (chOf o f x d) = l3 at *
            obtain ⟨bo, off, cap', hvv⟩ := HOC.out.some (by omega)
            cases hvv
            obtain ⟨⟨o, f, x, d⟩, hk⟩ : ∃ e : OpT, C[k]? = some e := ⟨_, List.getElem?_eq_getElem hC⟩
            have hbd := Lib.hid (HBC.out _ (List.mem_of_getElem? hk))
            have HLK := Lib.hid hk
            clear hk
            obtain ⟨hold', hcs⟩ := (HOC.out.below HN.out.below).cells HLK.out
            have f0 := hcs 0 (by omega)
            have f1 := hcs 1 (by omega)
            have f2 := hcs 2 (by omega)
            have f3 := hcs 3 (by omega)
            have f4 := hcs 4 (by omega)
            have f5 := hcs 5 (by omega)
            have f6 := hcs 6 (by omega)
            have f7 := hcs 7 (by omega)
            have f8 := hcs 8 (by omega)
            have f9 := hcs 9 (by omega)
            have f10 := hcs 10 (by omega)
            have f11 := hcs 11 (by omega)
            have f12 := hcs 12 (by omega)
            have f13 := hcs 13 (by omega)
            have f14 := hcs 14 (by omega)
            have f15 := hcs 15 (by omega)
            clear hcs
            simp at f0 f1 f2 f3 f4 f5 f6 f7 f8 f9 f10 f11 f12 f13 f14 f15
            go_wp2_with (go_at_call 11; refine Stop.here ?_)
            refine Stop.on ?_
            refine (doH_any HN.out.hx o f x d hbd.out.1 hbd.out.2 (by have := HN.out.cx; omega)).mono ?_
            rintro e w2 ⟨rfl, n2, hn2, h2, fr2, hb2⟩
            have HM := Lib.hid (HN.out.stepX hn2 h2 fr2 hb2)
            clear h2 fr2 hb2 hn2 HN hold'
            clear f0 f1 f2 f3 f4 f5 f6 f7 f8 f9 f10 f11 f12 f13 f14 f15
            obtain ⟨hold', hcs⟩ := (HOC.out.below HM.out.below).cells HLK.out
            have f0 := hcs 0 (by omega)
            have f1 := hcs 1 (by omega)
            have f2 := hcs 2 (by omega)
            have f3 := hcs 3 (by omega)
            have f4 := hcs 4 (by omega)
            have f5 := hcs 5 (by omega)
            have f6 := hcs 6 (by omega)
            have f7 := hcs 7 (by omega)
            have f8 := hcs 8 (by omega)
            have f9 := hcs 9 (by omega)
            have f10 := hcs 10 (by omega)
            have f11 := hcs 11 (by omega)
            have f12 := hcs 12 (by omega)
            have f13 := hcs 13 (by omega)
            have f14 := hcs 14 (by omega)
            have f15 := hcs 15 (by omega)
            clear hcs
            simp at f0 f1 f2 f3 f4 f5 f6 f7 f8 f9 f10 f11 f12 f13 f14 f15
            go_wp2_with (go_at_call 12; refine Stop.here ?_)
            refine Stop.on ?_
            refine (doR_any _ av o f x d _ HM.out.ev (by have := HM.out.lv; omega)).mono ?_
            rintro e w3 ⟨v', rfl, hb3, he3⟩
            have HN := Lib.hid (HM.out.stepV hb3 he3 hbd.out.1 hbd.out.2)
            clear hb3 he3 HM hold'
            clear f0 f1 f2 f3 f4 f5 f6 f7 f8 f9 f10 f11 f12 f13 f14 f15
            generalize doM av (chOf o f x d) = l4 at *
            go_wp2
            go_roundw
            case rel => exact ⟨k + 1, _, _, l3, l4, by omega, by go_num, HN.out.more (by omega)⟩
            case measure => simp [intOf]; omega
          · as_aux_lemma =>
            have kbA : (k : Int) < A.length := by omega
            have kdC : decide ((k : Int) < C.length) = false := by simp; omega
            obtain ⟨bo, off, cap', hvv⟩ := HOA.out.some (by omega)
            cases hvv
            obtain ⟨⟨o, f, x, d⟩, hk⟩ : ∃ e : OpT, A[k]? = some e := ⟨_, List.getElem?_eq_getElem hA⟩
            have hbd := Lib.hid (HBA.out _ (List.mem_of_getElem? hk))
            have HLK := Lib.hid hk
            clear hk
            obtain ⟨hold', hcs⟩ := (HOA.out.below HN.out.below).cells HLK.out
            have f0 := hcs 0 (by omega)
            have f1 := hcs 1 (by omega)
            have f2 := hcs 2 (by omega)
            have f3 := hcs 3 (by omega)
            have f4 := hcs 4 (by omega)
            have f5 := hcs 5 (by omega)
            have f6 := hcs 6 (by omega)
            have f7 := hcs 7 (by omega)
            have f8 := hcs 8 (by omega)
            have f9 := hcs 9 (by omega)
            have f10 := hcs 10 (by omega)
            have f11 := hcs 11 (by omega)
            have f12 := hcs 12 (by omega)
            have f13 := hcs 13 (by omega)
            have f14 := hcs 14 (by omega)
            have f15 := hcs 15 (by omega)
            clear hcs
            simp at f0 f1 f2 f3 f4 f5 f6 f7 f8 f9 f10 f11 f12 f13 f14 f15
            go_wp2_with (go_at_call 11; refine Stop.here ?_)
            refine Stop.on ?_
            refine (doH_any HN.out.hm o f x d hbd.out.1 hbd.out.2 (by have := HN.out.cm; omega)).mono ?_
            rintro e w2 ⟨rfl, n2, hn2, h2, fr2, hb2⟩
            have HM := Lib.hid (HN.out.stepM hn2 h2 fr2 hb2)
            clear h2 fr2 hb2 hn2 HN hold'
            clear f0 f1 f2 f3 f4 f5 f6 f7 f8 f9 f10 f11 f12 f13 f14 f15
            obtain ⟨hold', hcs⟩ := (HOA.out.below HM.out.below).cells HLK.out
            have f0 := hcs 0 (by omega)
            have f1 := hcs 1 (by omega)
            have f2 := hcs 2 (by omega)
            have f3 := hcs 3 (by omega)
            have f4 := hcs 4 (by omega)
            have f5 := hcs 5 (by omega)
            have f6 := hcs 6 (by omega)
            have f7 := hcs 7 (by omega)
            have f8 := hcs 8 (by omega)
            have f9 := hcs 9 (by omega)
            have f10 := hcs 10 (by omega)
            have f11 := hcs 11 (by omega)
            have f12 := hcs 12 (by omega)
            have f13 := hcs 13 (by omega)
            have f14 := hcs 14 (by omega)
            have f15 := hcs 15 (by omega)
            clear hcs
            simp at f0 f1 f2 f3 f4 f5 f6 f7 f8 f9 f10 f11 f12 f13 f14 f15
            go_wp2_with (go_at_call 12; refine Stop.here ?_)
            refine Stop.on ?_
            refine (doR_any _ au o f x d _ HM.out.eu (by have := HM.out.lu; omega)).mono ?_
            rintro e w3 ⟨v', rfl, hb3, he3⟩
            have HN := Lib.hid (HM.out.stepU hb3 he3 hbd.out.1 hbd.out.2)
            clear hb3 he3 HM hold'
            clear f0 f1 f2 f3 f4 f5 f6 f7 f8 f9 f10 f11 f12 f13 f14 f15
            generalize doM au (chOf o f x d) = l3 at *
            go_wp2
            go_roundw
            case rel => exact ⟨k + 1, _, _, l3, av, by omega, by go_num, HN.out.more (by omega)⟩
            case measure => simp [intOf]; omega
          · as_aux_lemma =>
            have kdA : decide ((k : Int) < A.length) = false := by simp; omega
            have kbC : (k : Int) < C.length := by omega
            obtain ⟨bo, off, cap', hvv⟩ := HOC.out.some (by omega)
            cases hvv
            obtain ⟨⟨o, f, x, d⟩, hk⟩ : ∃ e : OpT, C[k]? = some e := ⟨_, List.getElem?_eq_getElem hC⟩
            have hbd := Lib.hid (HBC.out _ (List.mem_of_getElem? hk))
            have HLK := Lib.hid hk
            clear hk
            obtain ⟨hold', hcs⟩ := (HOC.out.below HN.out.below).cells HLK.out
            have f0 := hcs 0 (by omega)
            have f1 := hcs 1 (by omega)
            have f2 := hcs 2 (by omega)
            have f3 := hcs 3 (by omega)
            have f4 := hcs 4 (by omega)
            have f5 := hcs 5 (by omega)
            have f6 := hcs 6 (by omega)
            have f7 := hcs 7 (by omega)
            have f8 := hcs 8 (by omega)
            have f9 := hcs 9 (by omega)
            have f10 := hcs 10 (by omega)
            have f11 := hcs 11 (by omega)
            have f12 := hcs 12 (by omega)
            have f13 := hcs 13 (by omega)
            have f14 := hcs 14 (by omega)
            have f15 := hcs 15 (by omega)
            clear hcs
            simp at f0 f1 f2 f3 f4 f5 f6 f7 f8 f9 f10 f11 f12 f13 f14 f15
            go_wp2_with (go_at_call 11; refine Stop.here ?_)
            refine Stop.on ?_
            refine (doH_any HN.out.hx o f x d hbd.out.1 hbd.out.2 (by have := HN.out.cx; omega)).mono ?_
            rintro e w2 ⟨rfl, n2, hn2, h2, fr2, hb2⟩
            have HM := Lib.hid (HN.out.stepX hn2 h2 fr2 hb2)
            clear h2 fr2 hb2 hn2 HN hold'
            clear f0 f1 f2 f3 f4 f5 f6 f7 f8 f9 f10 f11 f12 f13 f14 f15
            obtain ⟨hold', hcs⟩ := (HOC.out.below HM.out.below).cells HLK.out
            have f0 := hcs 0 (by omega)
            have f1 := hcs 1 (by omega)
            have f2 := hcs 2 (by omega)
            have f3 := hcs 3 (by omega)
            have f4 := hcs 4 (by omega)
            have f5 := hcs 5 (by omega)
            have f6 := hcs 6 (by omega)
            have f7 := hcs 7 (by omega)
            have f8 := hcs 8 (by omega)
            have f9 := hcs 9 (by omega)
            have f10 := hcs 10 (by omega)
            have f11 := hcs 11 (by omega)
            have f12 := hcs 12 (by omega)
            have f13 := hcs 13 (by omega)
            have f14 := hcs 14 (by omega)
            have f15 := hcs 15 (by omega)
            clear hcs
            simp at f0 f1 f2 f3 f4 f5 f6 f7 f8 f9 f10 f11 f12 f13 f14 f15
            go_wp2_with (go_at_call 12; refine Stop.here ?_)
            refine Stop.on ?_
            refine (doR_any _ av o f x d _ HM.out.ev (by have := HM.out.lv; omega)).mono ?_
            rintro e w3 ⟨v', rfl, hb3, he3⟩
            have HN := Lib.hid (HM.out.stepV hb3 he3 hbd.out.1 hbd.out.2)
            clear hb3 he3 HM hold'
            clear f0 f1 f2 f3 f4 f5 f6 f7 f8 f9 f10 f11 f12 f13 f14 f15
            generalize doM av (chOf o f x d) = l4 at *
            go_wp2
            go_roundw
            case rel => exact ⟨k + 1, _, _, au, l4, by omega, by go_num, HN.out.more (by omega)⟩
            case measure => simp [intOf]; omega
          · omega
        · have hkl : k = N := by omega
          subst hkl
          clear hltN
          have HQ1 := Lib.hid (fun (w' : World) (hb : Below wr.heap.size wr w') => agrees_any (HN.out.of_below hb).hm HN.out.gu HN.out.fu (HN.out.of_below hb).eu (by have := HN.out.lu; omega) (HO.out.below (HN.out.of_below hb).below) (by omega) HBD.out)
          have HQ2 := Lib.hid (fun (w' : World) (hb : Below wr.heap.size wr w') => agrees_any (HN.out.of_below hb).hm HN.out.gu HN.out.fu (HN.out.of_below hb).eu (by have := HN.out.lu; omega) (HOA.out.below (HN.out.of_below hb).below) (by omega) HBA.out)
          have HQ3 := Lib.hid (fun (w' : World) (hb : Below wr.heap.size wr w') => agrees_any (HN.out.of_below hb).hx HN.out.gv HN.out.fv (HN.out.of_below hb).ev (by have := HN.out.lv; omega) (HO.out.below (HN.out.of_below hb).below) (by omega) HBD.out)
          have HQ4 := Lib.hid (fun (w' : World) (hb : Below wr.heap.size wr w') => agrees_any (HN.out.of_below hb).hx HN.out.gv HN.out.fv (HN.out.of_below hb).ev (by have := HN.out.lv; omega) (HOC.out.below (HN.out.of_below hb).below) (by omega) HBC.out)
          have HQ5 := Lib.hid (fun (w' : World) (hb : Below wr.heap.size wr w') => agrees_any (HN.out.of_below hb).hy HN.out.gl HN.out.fl (HN.out.of_below hb).en (by have := HN.out.ll; omega) (HO.out.below (HN.out.of_below hb).below) (by omega) HBD.out)
          have HQ6 := Lib.hid (fun (w' : World) (hb : Below wr.heap.size wr w') => agrees_any (HN.out.of_below hb).hy HN.out.gl HN.out.fl (HN.out.of_below hb).en (by have := HN.out.ll; omega) (HOA.out.below (HN.out.of_below hb).below) (by omega) HBA.out)
          have HQ7 := Lib.hid (fun (w' : World) (hb : Below wr.heap.size wr w') => listed_any (HN.out.of_below hb).hm HN.out.gu HN.out.fu (by have := HN.out.cm; omega) (HN.out.of_below hb).eu (by have := HN.out.lu; omega))
          have HQ8 := Lib.hid (fun (w' : World) (hb : Below wr.heap.size wr w') => listed_any (HN.out.of_below hb).hx HN.out.gv HN.out.fv (by have := HN.out.cx; omega) (HN.out.of_below hb).ev (by have := HN.out.lv; omega))
          have HQ9 := Lib.hid (fun (w' : World) (hb : Below wr.heap.size wr w') => listed_any (HN.out.of_below hb).hy HN.out.gl HN.out.fl (by have := HN.out.cy; omega) (HN.out.of_below hb).en (by have := HN.out.ll; omega))
          go_wp2_with (first | (go_at_call 15; (with_reducible refine (HQ1.out _ (by repeat (first | exact Below.refl _ _ | refine below_gw ?_ (by simp; try omega) _ | refine Below.alloc ?_ (by simp; try omega) _ | refine Below.setCell ?_ (by simp; try omega) _ | refine Below.drew ?_))).mono ?_); rintro e w1 ⟨rfl, p2, rfl⟩) | (go_at_call 15; (with_reducible refine (HQ2.out _ (by repeat (first | exact Below.refl _ _ | refine below_gw ?_ (by simp; try omega) _ | refine Below.alloc ?_ (by simp; try omega) _ | refine Below.setCell ?_ (by simp; try omega) _ | refine Below.drew ?_))).mono ?_); rintro e w1 ⟨rfl, p3, rfl⟩) | (go_at_call 15; (with_reducible refine (HQ3.out _ (by repeat (first | exact Below.refl _ _ | refine below_gw ?_ (by simp; try omega) _ | refine Below.alloc ?_ (by simp; try omega) _ | refine Below.setCell ?_ (by simp; try omega) _ | refine Below.drew ?_))).mono ?_); rintro e w1 ⟨rfl, p4, rfl⟩) | (go_at_call 15; (with_reducible refine (HQ4.out _ (by repeat (first | exact Below.refl _ _ | refine below_gw ?_ (by simp; try omega) _ | refine Below.alloc ?_ (by simp; try omega) _ | refine Below.setCell ?_ (by simp; try omega) _ | refine Below.drew ?_))).mono ?_); rintro e w1 ⟨rfl, p5, rfl⟩) | (go_at_call 15; (with_reducible refine (HQ5.out _ (by repeat (first | exact Below.refl _ _ | refine below_gw ?_ (by simp; try omega) _ | refine Below.alloc ?_ (by simp; try omega) _ | refine Below.setCell ?_ (by simp; try omega) _ | refine Below.drew ?_))).mono ?_); rintro e w1 ⟨rfl, p6, rfl⟩) | (go_at_call 15; (with_reducible refine (HQ6.out _ (by repeat (first | exact Below.refl _ _ | refine below_gw ?_ (by simp; try omega) _ | refine Below.alloc ?_ (by simp; try omega) _ | refine Below.setCell ?_ (by simp; try omega) _ | refine Below.drew ?_))).mono ?_); rintro e w1 ⟨rfl, p7, rfl⟩) | (go_at_call 19; (with_reducible refine (HQ7.out _ (by repeat (first | exact Below.refl _ _ | refine below_gw ?_ (by simp; try omega) _ | refine Below.alloc ?_ (by simp; try omega) _ | refine Below.setCell ?_ (by simp; try omega) _ | refine Below.drew ?_))).mono ?_); rintro e w1 ⟨rfl, p8, rfl⟩) | (go_at_call 19; (with_reducible refine (HQ8.out _ (by repeat (first | exact Below.refl _ _ | refine below_gw ?_ (by simp; try omega) _ | refine Below.alloc ?_ (by simp; try omega) _ | refine Below.setCell ?_ (by simp; try omega) _ | refine Below.drew ?_))).mono ?_); rintro e w1 ⟨rfl, p9, rfl⟩) | (go_at_call 19; (with_reducible refine (HQ9.out _ (by repeat (first | exact Below.refl _ _ | refine below_gw ?_ (by simp; try omega) _ | refine Below.alloc ?_ (by simp; try omega) _ | refine Below.setCell ?_ (by simp; try omega) _ | refine Below.drew ?_))).mono ?_); rintro e w1 ⟨rfl, p10, rfl⟩))
          go_ret
          exact Gives.mk rfl (HN.out.below.trans ((show Below wr.heap.size wr _ from (by repeat (first | exact Below.refl _ _ | refine below_gw ?_ (by simp; try omega) _ | refine Below.alloc ?_ (by simp; try omega) _ | refine Below.setCell ?_ (by simp; try omega) _ | refine Below.drew ?_))).mono HN.out.below.size))

end Go.Proofs.Ytioajmhfofmdoaa
