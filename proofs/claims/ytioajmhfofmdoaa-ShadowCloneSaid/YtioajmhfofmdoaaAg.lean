/- The given memory agrees with the document's at the locations of a list of changes. -/
import Derived.Test.YtioajmhfofmdoaaHl
import Derived.Test.YtioajmhfofmdoaaRj
namespace Go.Proofs.Ytioajmhfofmdoaa
open Go.RowKit Go.Sort Go.Maps

abbrev OpT := Int × Int × Wd × Bool
abbrev opC (e : OpT) : List Value := [.int .i64 e.1, .int .i64 e.2.1, .int .i64 e.2.2.1.g, .int .i64 e.2.2.1.n, .bool e.2.2.1.s, .int .i64 e.2.2.1.rg, .int .i64 e.2.2.1.rn, .int .i64 (e.2.2.1.c 0), .int .i64 (e.2.2.1.c 1), .int .i64 (e.2.2.1.c 2), .int .i64 (e.2.2.1.c 3), .int .i64 (e.2.2.1.c 4), .int .i64 (e.2.2.1.c 5), .int .i64 (e.2.2.1.c 6), .int .i64 (e.2.2.1.c 7), .bool e.2.2.2]
/-- Changes in memory. -/
def OpsAt (B : Nat) (w : World) (v : Value) (L : List OpT) : Prop :=
  ∃ ad cap, v = .slice ad L.length cap ∧ (0 < L.length → ∃ b off, ad = some ⟨b, off, none⟩ ∧ b < B ∧ Old b w ∧ ∀ k (h : k < L.length) i, i < 16 → w.cell? ⟨b, off + k * 16 + i, none⟩ = (opC L[k])[i]?)
theorem OpsAt.below {B : Nat} {w w' : World} {v : Value} {L : List OpT} (h : OpsAt B w v L) (hb : Below B w w') : OpsAt B w' v L := by
  obtain ⟨ad, cap, e, h⟩ := h
  refine ⟨ad, cap, e, fun h0 => ?_⟩
  obtain ⟨b, off, e, hB, ho, hc⟩ := h h0
  exact ⟨b, off, e, hB, by have := ho.lt; have := hb.size; simp [Old]; omega, fun k hk i hi => (hb.cell (p := ⟨b, off + k * 16 + i, none⟩) hB).trans (hc k hk i hi)⟩
theorem run_neq_wd (a b : Wd) (w : World) : (binOp .neq 37 (wv a) (wv b)).run Try.prog w = .ok (.bool (!wdE a b)) w := by
  obtain ⟨g, n, s, rg, rn, c⟩ := a
  obtain ⟨g', n', s', rg', rn', c'⟩ := b
  have hq := run_equalIn_clk 9996 c c' w
  simp only [cl] at hq
  simp [go_sem, hq, wdE]
  by_cases h1 : g = g' <;> by_cases h2 : n = n' <;> by_cases h3 : s = s' <;> by_cases h4 : rg = rg' <;> by_cases h5 : rn = rn' <;> cases hc : clE c c' <;> simp [h1, h2, h3, h4, h5]
theorem run_neq_wd_same (a : Wd) (w : World) : (binOp .neq 37 (wv a) (wv a)).run Try.prog w = .ok (.bool false) w := by
  have := run_neq_wd a a w
  rwa [(wdE_iff a a).2 rfl] at this

set_option maxRecDepth 100000 in
set_option maxHeartbeats 1000000 in
theorem agrees_any {T : Nat → Prop} {B B0 : Nat} {w : World} {bm bp tk n : Nat} {l : List Ent} {vn vo : Value} {L : List OpT} (h : Holds T B w bm bp tk n l) (hg : Good l) (hf : Fits l) (he : EntT w vn l) (hlen : l.length ≤ 1000) (ho : OpsAt B0 w vo L) (hL : L.length ≤ 1000) (hb : ∀ e ∈ L, I64 e.1 ∧ I64 e.2.1) :
    Calls Try.prog 15 #[.pointer (some ⟨bm, 0, none⟩), vn, vo] w (Gives (.bool true) w) := by
  obtain ⟨ad, cap, rfl, hrow⟩ := ho
  have HR := Lib.hid hrow; clear hrow
  have HH := Lib.hid h
  have HE := Lib.hid he
  have HBD := Lib.hid hb
  have HP := Lib.hid (fun W (h : Holds T B W bm bp tk n l) => pagesH_any h hg hf)
  have HPR := Lib.hid (fun W (h : EntT W vn l) => pagesR_any vn l W h.1 hlen (fun e he => ⟨(hg.usable e he).2, (hf e he).2⟩))
  have HG0 := Lib.hid hg
  clear h he hb hf hg
  go_enter Try.func15, Try.ntmps15
  go_wp2
  go_loopw [11] (fun i wr => ∃ k : Nat, ∃ q, k ≤ L.length ∧ i = .int .i64 k ∧ wr = gw w q) (fun i _ => L.length - (intOf i).toNat)
  case atStart => exact ⟨0, _, by omega, rfl, gw_self _⟩
  case round =>
    obtain ⟨k, q, hk, rfl, rfl⟩ := hrel
    by_cases hlt : k < L.length
    · obtain ⟨b, off, rfl, _, hold, hcs⟩ := HR.out (by omega)
      have hold' := hold.lt
      have f0 := hcs k hlt 0 (by omega)
      have f1 := hcs k hlt 1 (by omega)
      have f2 := hcs k hlt 2 (by omega)
      have f3 := hcs k hlt 3 (by omega)
      have f4 := hcs k hlt 4 (by omega)
      have f5 := hcs k hlt 5 (by omega)
      have f6 := hcs k hlt 6 (by omega)
      have f7 := hcs k hlt 7 (by omega)
      have f8 := hcs k hlt 8 (by omega)
      have f9 := hcs k hlt 9 (by omega)
      have f10 := hcs k hlt 10 (by omega)
      have f11 := hcs k hlt 11 (by omega)
      have f12 := hcs k hlt 12 (by omega)
      have f13 := hcs k hlt 13 (by omega)
      have f14 := hcs k hlt 14 (by omega)
      have f15 := hcs k hlt 15 (by omega)
      have kb : (k : Int) < L.length := by omega
      have hbd := HBD.out _ (List.getElem_mem hlt)
      clear hcs
      generalize L[k] = e at *
      obtain ⟨o, f, x, d⟩ := e
      simp at f0 f1 f2 f3 f4 f5 f6 f7 f8 f9 f10 f11 f12 f13 f14 f15
      have hw : Below w.heap.size w ((gw w q).alloc (.cells (opC (o, f, x, d)).toArray 39)) := (by repeat (first | exact Below.refl _ _ | refine below_gw ?_ (by simp; try omega) _ | refine Below.alloc ?_ (by simp; try omega) _ | refine Below.setCell ?_ (by simp; try omega) _ | refine Below.drew ?_))
      have HG := Lib.hid (fun p => getH_any ((HH.out.below hw).gw p) HG0.out o f hbd.1 hbd.2)
      have HGR := Lib.hid (fun p => getR_any vn l o f _ ((HE.out.below hw).1.gw p) (by omega))
      have qn := run_neq_wd_same (getM l o f)
      generalize getM l o f = g at *
      clear hbd hw
      go_wp2
      refine wp_region_gw (by kernel_rfl) (by kernel_rfl) ?_
      repeat (quiet_step (first | (go_at_call 13; exact Gives.call (HG.out _)) | (go_at_call 14; exact Gives.call (HGR.out _))))
      refine wpQuiet_nil ?_
      intro _ hw'
      obtain ⟨p2, hw''⟩ := hw'
      subst hw''
      go_wp2
      go_roundw
      case rel =>
        have hB : Below w.heap.size w (gw ((gw w q).alloc (.cells (opC (o, f, x, d)).toArray 39)) p2) := (by repeat (first | exact Below.refl _ _ | refine below_gw ?_ (by simp; try omega) _ | refine Below.alloc ?_ (by simp; try omega) _ | refine Below.setCell ?_ (by simp; try omega) _ | refine Below.drew ?_))
        obtain ⟨q', hq'⟩ := gw_of_below hB
        exact ⟨k + 1, q', by omega, by go_num, hq'⟩
      case measure => simp [intOf]; omega
    · have hkl : k = L.length := by omega
      have hP := HP.out _ (HH.out.gw q)
      go_wp2_with (first | (go_at_call 16; refine (hP).mono ?_; rintro e w1 ⟨rfl, p3, rfl⟩) | (go_at_call 17; refine (HPR.out _ (HE.out.below (by repeat (first | exact Below.refl _ _ | refine below_gw ?_ (by simp; try omega) _ | refine Below.alloc ?_ (by simp; try omega) _ | refine Below.setCell ?_ (by simp; try omega) _ | refine Below.drew ?_)))).mono ?_; rintro e w1 ⟨rfl, p4, rfl⟩))
      go_ret; exact Gives.mk rfl (by repeat (first | exact Below.refl _ _ | refine below_gw ?_ (by simp; try omega) _ | refine Below.alloc ?_ (by simp; try omega) _ | refine Below.setCell ?_ (by simp; try omega) _ | refine Below.drew ?_))

end Go.Proofs.Ytioajmhfofmdoaa
