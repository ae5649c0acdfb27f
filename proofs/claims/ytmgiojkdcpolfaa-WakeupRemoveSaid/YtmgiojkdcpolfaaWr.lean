/- Without of the reference. -/
import Derived.Test.YtmgiojkdcpolfaaWo
import Derived.Test.YtmgiojkdcpolfaaRel
namespace Go.Proofs.Ytmgiojkdcpolfaa
open Go.RowKit Go.Sort

theorem append_empty {α : Type} {n : Nat} {f : α → List Value} (w : World) (t e : TypeId) (i : TypeInfo) (z : Value) (bytes : Nat) (ht : Try.prog.underlying t = some (.slice e)) (hi : Try.prog.info? e = some i) (hz : i.zero = some z)
    (hsize : i.size = n) (hby : i.bytes = bytes) (hzs : z.cells.size = n) (hf : ∀ x, (f x).length = n)
    (B g : Nat) (hB : B ≤ w.heap.size) (hown : w.ownsRow B e n (.slice (some ⟨g, 0, none⟩) 0 0) 0 []) (ad : Option Addr) (l : List α) (c : Nat) (h : Row n f w ad l) (h63 : l.length ≤ maxLen) (hbytes : l.length * bytes ≤ 140737488355328) :
    ∃ v' w', (∀ ty, (Builtin.append_ #[t, t] ty #[.slice (some ⟨g, 0, none⟩) 0 0, .slice ad l.length c]).run Try.prog w = .ok v' w') ∧ (∃ q, w' = gw w q) ∧ w'.ownsRow B e n v' l.length (l.flatMap f) := by
  subst hsize hby
  by_cases h0 : l.length = 0
  · obtain rfl := List.length_eq_zero_iff.1 h0
    refine ⟨.slice (some ⟨g, 0, none⟩) 0 0, w, fun ty => ?_, ⟨_, gw_self w⟩, by simpa using hown⟩
    cases ad <;> simp [Builtin.append_, run_underlying ht, sizeOf, typeInfo, hi, Builtin.lenOf, Builtin.firstCells, loadCells, loadCellsFrom, storeCells]
  · obtain ⟨b, off, rfl, ho, hcs⟩ := h (by omega)
    have hr := fun ty => run_append_grow (P := Try.prog) w t ty e i z ht hi hz ⟨g, 0, none⟩ 0 0 [] (by simp) (fun j u hu => by simp at hu) ⟨b, off, none⟩ l.length c (l.flatMap f) (flat_len hf l) (fun j u hu => h.cells hf _ rfl j u hu) (by omega) (by unfold maxLen at h63; omega) (growslice_fits (by omega) (by rw [Nat.zero_add]; exact hbytes))
    have hge := grownCap_ge w l.length 0 e
    simp only [Nat.zero_add] at hr
    have hl := flat_len hf l
    refine ⟨_, _, hr, gw_of_below ((Below.drew (Below.refl _ w)).alloc (by simp) _), ⟨hl, .inr ⟨w.heap.size, _, _, rfl, hB, heap_alloc_at' _ _ _ (by simp), hge, grownCap_le_maxLen _ _ _ _ h63, ?_, ?_⟩⟩⟩
    · have hm : l.length * i.size ≤ grownCap w l.length 0 e * i.size := Nat.mul_le_mul_right _ hge
      simp [hl, size_zeroCells, hzs, Nat.sub_mul]
      omega
    · simp [← hl]

theorem DGives {X : World} {f : FuncId} {args : Array Value} {v : Value} (h : ∀ r, Calls Try.prog f args (gw X r) (Gives v (gw X r))) (r p : Regrown) : Calls Try.prog f args (gw (gw X r) p) fun e w'' => e = .returned v ∧ ∃ q : Regrown, w'' = gw (gw X r) q := by
  obtain ⟨q, hq⟩ := back_gw X r p
  have := h q
  rw [← hq] at this
  exact Gives.call this

set_option maxRecDepth 100000 in
set_option maxHeartbeats 2000000 in
theorem withoutR_any (ad : Option Addr) (l : List PS) (cap : Nat) (x : PS) (w : World) (hS : Sts w ad l) (hx : Rd w x) (hcap : l.length ≤ cap) (hn : ad = none → cap = 0) (hb : l.length ≤ 900) :
    Calls Try.prog 20 #[.slice ad l.length cap, stv x] w (WoPost (wo l x) w) := by
  obtain ⟨i0, z0, HI⟩ := step_info
  obtain ⟨X, hX⟩ : ∃ X, X = w.alloc (.cells (stC x).toArray 30) := ⟨_, rfl⟩
  have HB := Lib.hid (show Below w.heap.size w X by rw [hX]; exact (by repeat (first | exact Below.refl _ _ | refine below_gw ?_ (by simp; try omega) _ | refine Below.alloc ?_ (by simp; try omega) _ | refine Below.setCell ?_ (by simp; try omega) _ | refine Below.drew ?_)))
  have hbx : X.heap[w.heap.size]? = some (.cells (stC x).toArray 30 (0, 0)) := by rw [hX]; exact heap_alloc_at' _ _ _ rfl
  have HS := Lib.hid (hS.below HB.out)
  have HX := Lib.hid (hx.below HB.out)
  obtain ⟨xg, xc, xga, xgs, xgc, xta, xts, xtc⟩ := x
  obtain ⟨b0, b1, b2, b3⟩ := box_step hbx
  simp at b0 b1 b2 b3
  have o0 : Old w.heap.size X := Old.of_cell b0
  have HN := Lib.hid hn
  clear hS hx hbx hn
  go_enter Try.func20, Try.ntmps20
  go_wp2
  rw [← hX]
  clear hX
  go_loopw [6] (fun i wr => ∃ k : Nat, ∃ r, k ≤ l.length ∧ i = .int .i64 k ∧ Hid ((l.take k).any (fun s => pk s ⟨xg, xc, xga, xgs, xgc, xta, xts, xtc⟩) = false) ∧ wr = gw X r) (fun i _ => l.length - (intOf i).toNat)
  case atStart => exact ⟨0, _, by omega, rfl, Lib.hid rfl, gw_self _⟩
  case round =>
    obtain ⟨k, r, hk, rfl, hf, rfl⟩ := hrel
    by_cases hlt : k < l.length
    · have kb : (k : Int) < l.length := by omega
      obtain ⟨⟨yg, yc, yga, ygs, ygc, yta, yts, ytc⟩, hy⟩ := get_some hlt
      obtain ⟨b₀, off, rfl, ho, hc⟩ := HS.out.row.get hy
      have f0 := hc 0 (by omega)
      have f1 := hc 1 (by omega)
      simp at f0 f1
      have HY := Lib.hid hy
      clear hy hc
      by_cases hg : yg = xg
      · subst hg
        by_cases hcc : yc = xc
        · subst hcc
          have hC := fun r => initialR_any (some ⟨b₀, off, none⟩) l cap k _ (gw X r) (HS.out.gw r) (by omega) HY.out
          have hw := wo_hit (first_idx (f := fun s => pk s ⟨yg, yc, xga, xgs, xgc, xta, xts, xtc⟩) hf.out HY.out (by simp [pk])) HY.out
          obtain ⟨d, hd⟩ : ∃ d, iniB l k ⟨yg, yc, yga, ygs, ygc, yta, yts, ytc⟩ = d := ⟨_, rfl⟩
          rw [hd] at hC hw
          have HCC := Lib.hid hC
          have HW := Lib.hid hw
          clear hC hw hd
          cases d
          · go_wp2
            refine wp_region_gw (by kernel_rfl) (by kernel_rfl) ?_
            repeat (quiet_step (first | fail))
            refine wpQuiet_nil ?_
            intro _ hw'
            obtain ⟨p1, hw''⟩ := hw'
            subst hw''
            obtain ⟨r2, hr2⟩ := back_gw X r p1
            rw [hr2]
            clear hr2
            have HD := Lib.hid (HCC.out r2)
            go_wp2_with (go_at_call 47; (with_reducible refine (HD.out).mono ?_); rintro e w1 ⟨rfl, p2, rfl⟩)
            have hB := below_gw (below_gw HB.out HB.out.size r2) (by have := HB.out.size; simp; omega) p2
            refine bodyPost_ret (results_tmp2 Try.results20 _ _ _) rfl ?_
            exact WoPost.none' HW.out hB
          · go_wp2
            refine wp_region_gw (by kernel_rfl) (by kernel_rfl) ?_
            repeat (quiet_step (first | fail))
            refine wpQuiet_nil ?_
            intro _ hw'
            obtain ⟨p1, hw''⟩ := hw'
            subst hw''
            obtain ⟨r2, hr2⟩ := back_gw X r p1
            rw [hr2]
            clear hr2
            have HD := Lib.hid (HCC.out r2)
            go_wp2_with (go_at_call 47; (with_reducible refine (HD.out).mono ?_); rintro e w1 ⟨rfl, p2, rfl⟩)
            obtain ⟨p, hp⟩ := back_gw X r2 p2
            rw [hp]
            clear hp f0 f1
            have hwr : IntKind.i64.wrap ((k : Int) + 1) = (k : Int) + 1 := by rw [IntKind.wrap_i64]; omega
            have hk1 : (0 : Int) ≤ (k : Int) + 1 := by omega
            have hk2 : (k : Int) + 1 ≤ l.length := by omega
            have hk3 : ((k : Int) + 1).toNat = k + 1 := by omega
            have hk4 : (k : Int) ≤ cap := by omega
            have hX0 := HB.out.size
            rename_i hK
            refine wp_region_relL 9 [26, 27, 28, 29, 30, 31, 32, 33, 34] [fun w' v => ∃ g, v = .slice (some ⟨g, 0, none⟩) 0 0 ∧ w'.ownsRow w.heap.size 30 4 v 0 [], fun _ v => v = .slice (some ⟨b₀, off, none⟩) l.length cap, fun _ v => v = .int .i64 k, fun _ v => v = .slice (some ⟨b₀, off, none⟩) k cap,
              fun w' v => w'.ownsRow w.heap.size 30 4 v (l.take k).length ((l.take k).flatMap stC), fun _ v => v = .slice (some ⟨b₀, off, none⟩) l.length cap, fun _ v => v = .int .i64 k, fun _ v => v = .int .i64 ((k : Int) + 1), fun _ v => v = .slice (if cap = k + 1 then some ⟨b₀, off, none⟩ else (some ⟨b₀, off, none⟩ : Option Addr).map (·.add ((k + 1) * 4))) (l.length - (k + 1)) (cap - (k + 1))] (by kernel_rfl) (by kernel_rfl) rfl rfl rfl ?_ ?_ ?_
            · refine ⟨?_, ?_, ?_, ?_, ?_, ?_, ?_, ?_, ?_, trivial⟩
              · rintro v w' q ⟨g, e, h⟩
                exact ⟨g, e, own_gw h q⟩
              · exact fun _ _ _ h => h
              · exact fun _ _ _ h => h
              · exact fun _ _ _ h => h
              · exact fun _ _ q h => own_gw h q
              · exact fun _ _ _ h => h
              · exact fun _ _ _ h => h
              · exact fun _ _ _ h => h
              · exact fun _ _ _ h => h
            · refine ⟨?_, ?_, ?_, ?_, ?_, ?_, ?_, ?_, ?_, trivial⟩
              · refine relAt_seen [] rfl rfl rfl fun b q hs => ?_
                simp [execOp, relUpon, FofL, go_sem, gw_ex_alloc]
                have hmd := World.ownsRow_made (base := w.heap.size) (size := 4) (e := 30) (gw (gw X p).drew q) #[] 0 (by simp; omega) (Nat.zero_le _) rfl
                rw [show X.heap.size + p.os.size + q.os.size = (gw (gw X p).drew q).heap.size by simp]
                exact hmd
              · refine relAt_seen [0] rfl rfl rfl fun b q hs => ?_
                simp [allSeen, FofL, slot] at hs
                simp [execOp, relUpon, FofL, go_sem, gw_ex_self, hs]
              · refine relAt_seen [6] rfl rfl rfl fun b q hs => ?_
                simp [allSeen, FofL, slot] at hs
                simp [execOp, relUpon, FofL, go_sem, gw_ex_self, hs]
              · refine relAt_seen [27, 28] rfl rfl rfl fun b q hs => ?_
                simp [allSeen, FofL, slot] at hs
                simp [execOp, relUpon, FofL, go_sem, gw_ex_self, hs, hk4]
              · refine relAt_seen [26, 29] rfl rfl rfl fun b q hs => ?_
                simp only [allSeen, FofL, slot] at hs
                simp at hs
                obtain ⟨⟨⟨g, h26⟩, hog⟩, h29⟩ := hs
                rw [h26] at hog
                have hXb := HB.out
                obtain ⟨v', w', hr, hq, hv⟩ := append_empty (gw (gw X p).drew q) 41 30 i0 z0 64 rfl HI.out.1 HI.out.2.1 HI.out.2.2.1 HI.out.2.2.2.1 HI.out.2.2.2.2 stC_len w.heap.size g (by simp; omega) hog (some ⟨b₀, off, none⟩) (l.take k) cap (((HS.out.gw p).row.gw q).take k) (by unfold maxLen; simp; omega) (by simp; omega)
                simp only [List.length_take, Nat.min_eq_left hk] at hr
                unfold execOp
                simp only [resolve, invoke, builtin, Sem.run_bind, Sem.run_pure, Result.andThen_ok, List.map_toArray, List.map_cons, List.map_nil, Act.eval, Array.getD_eq_getD_getElem?, h26, h29, hr]
                refine ⟨?_, hq⟩
                simp only [FofL, Nat.reduceEqDiff, if_true, if_false]
                exact hv
              · refine relAt_seen [0] rfl rfl rfl fun b q hs => ?_
                simp [allSeen, FofL, slot] at hs
                simp [execOp, relUpon, FofL, go_sem, gw_ex_self, hs]
              · refine relAt_seen [6] rfl rfl rfl fun b q hs => ?_
                simp [allSeen, FofL, slot] at hs
                simp [execOp, relUpon, FofL, go_sem, gw_ex_self, hs]
              · refine relAt_seen [32] rfl rfl rfl fun b q hs => ?_
                simp [allSeen, FofL, slot] at hs
                simp [execOp, relUpon, FofL, go_sem, gw_ex_self, hs, hwr]
              · refine relAt_seen [31, 33] rfl rfl rfl fun b q hs => ?_
                simp [allSeen, FofL, slot] at hs
                simp [execOp, relUpon, FofL, go_sem, gw_ex_self, hs, hk1, hk2, hk3]
            · intro b q hdf hsz hout hF
              have h30 := hF 30
              have h34 := hF 34
              simp only [FofL, Nat.reduceEqDiff, if_true, if_false] at h30 h34
              clear hF hout
              have hXb : Below w.heap.size w (gw (gw X p).drew q) := below_gw (Below.drew (below_gw HB.out HB.out.size p)) (by simp; omega) q
              have hrow := (((HS.out.gw p).row.gw ⟨(gw X p).drawn + 1, #[]⟩).gw q).drop (k + 1) hcap
              obtain ⟨ad2, ha2⟩ : ∃ ad2, ad2 = (if cap = k + 1 then some ⟨b₀, off, none⟩ else (some ⟨b₀, off, none⟩ : Option Addr).map (·.add ((k + 1) * 4))) := ⟨_, rfl⟩
              rw [← ha2] at h34 hrow
              have hne : ad2 = none → cap - (k + 1) = 0 := fun h => by
                exfalso
                rw [ha2] at h
                split at h <;> cases h
              refine wpList_append_row rfl _ _ 41 rfl w.heap.size 30 i0 z0 4 64 rfl HI.out.1 HI.out.2.1 HI.out.2.2.1 HI.out.2.2.2.1 HI.out.2.2.2.2 (by omega) stC_len stC_one (slot b 30) _ _ rfl h30 ad2 (cap - (k + 1)) (l.drop (k + 1)) hne (by rw [List.length_drop]; exact h34) hrow (by unfold maxLen; simp; omega) (by simp; omega) hXb.size ?_
              intro v' w5 hown hgrow _
              have HO := Lib.hid (WoPost.some' HW.out (below_grown hXb hgrow hXb.size (fun k hk => (h30.lt k hk).1)) (by rw [List.length_append, List.flatMap_append]; exact hown))
              clear hown hgrow hrow h30 h34 hne ha2 hXb
              go_step
              go_step
              go_step
              go_step
              go_step
              go_wp2
              refine bodyPost_ret (v := .tuple #[v', .bool true]) ?_ rfl HO.out
              rw [results_tmp2 Try.results20]
              simp [hsz]
        · have hb : (yc == xc) = false := by simp [hcc]
          have hpk : pk ⟨yg, yc, yga, ygs, ygc, yta, yts, ytc⟩ ⟨yg, xc, xga, xgs, xgc, xta, xts, xtc⟩ = false := by simp [pk, hcc]
          have HP := Lib.hid hpk
          clear hpk
          go_wp2
          refine wp_region_gw (by kernel_rfl) (by kernel_rfl) ?_
          repeat (quiet_step (first | fail))
          refine wpQuiet_nil ?_
          intro _ hw'
          obtain ⟨p1, hw''⟩ := hw'
          subst hw''
          go_wp2
          go_roundw
          case rel =>
            obtain ⟨r', hr'⟩ := back_gw X r p1
            exact ⟨k + 1, r', by omega, by go_num, Lib.hid (by rw [any_take _ HY.out, hf.out, HP.out]; rfl), hr'⟩
          case measure => simp [intOf]; omega
      · have hb : (yg == xg) = false := by simp [hg]
        have hpk : pk ⟨yg, yc, yga, ygs, ygc, yta, yts, ytc⟩ ⟨xg, xc, xga, xgs, xgc, xta, xts, xtc⟩ = false := by simp [pk, hg]
        have HP := Lib.hid hpk
        clear hpk
        go_wp2
        refine wp_region_gw (by kernel_rfl) (by kernel_rfl) ?_
        repeat (quiet_step (first | fail))
        refine wpQuiet_nil ?_
        intro _ hw'
        obtain ⟨p1, hw''⟩ := hw'
        subst hw''
        go_wp2
        go_roundw
        case rel =>
          obtain ⟨r', hr'⟩ := back_gw X r p1
          exact ⟨k + 1, r', by omega, by go_num, Lib.hid (by rw [any_take _ HY.out, hf.out, HP.out]; rfl), hr'⟩
        case measure => simp [intOf]; omega
    · have HM := Lib.hid (wo_miss (by
        rcases idx_cases l (fun s => pk s ⟨xg, xc, xga, xgs, xgc, xta, xts, xtc⟩) with ⟨j, y, hj, _, hy, _⟩ | ⟨_, h, _⟩
        · have := any_at (fun s => pk s ⟨xg, xc, xga, xgs, xgc, xta, xts, xtc⟩) hj hy
          rw [any_full hlt hf.out] at this; cases this
        · exact h))
      clear hf
      go_wp2
      clear hlt hk
      go_loopw [7] (fun i wr => ∃ k : Nat, ∃ r, k ≤ l.length ∧ i = .int .i64 k ∧ Hid ((l.take k).any (fun s => dep s ⟨xg, xc, xga, xgs, xgc, xta, xts, xtc⟩) = false) ∧ wr = gw X r) (fun i _ => l.length - (intOf i).toNat)
      case atStart => exact ⟨0, _, by omega, rfl, Lib.hid rfl, rfl⟩
      case round =>
        obtain ⟨k, r, hk, rfl, hf, rfl⟩ := hrel
        by_cases hlt : k < l.length
        · have kb : (k : Int) < l.length := by omega
          obtain ⟨y, hy⟩ := get_some hlt
          obtain ⟨b₀, off, rfl, ho, hc⟩ := HS.out.row.get hy
          have f0 := hc 0 (by omega)
          have f1 := hc 1 (by omega)
          have f2 := hc 2 (by omega)
          have f3 := hc 3 (by omega)
          simp at f0 f1 f2 f3
          have HY := Lib.hid hy
          clear hy hc
          have hd := fun r => dependR_any y ⟨xg, xc, xga, xgs, xgc, xta, xts, xtc⟩ (gw X r) ((HS.out.at HY.out).gw r) (HX.out.gw r)
          obtain ⟨d, he⟩ : ∃ d, dep y ⟨xg, xc, xga, xgs, xgc, xta, xts, xtc⟩ = d := ⟨_, rfl⟩
          rw [he] at hd
          have HD := Lib.hid hd
          have HE := Lib.hid he
          clear hd he
          cases d
          · go_wp2
            refine wp_region_gw (by kernel_rfl) (by kernel_rfl) ?_
            repeat (quiet_step (first | (go_at_call 18; exact DGives HD.out _ _)))
            refine wpQuiet_nil ?_
            intro _ hw'
            obtain ⟨p1, hw''⟩ := hw'
            subst hw''
            go_wp2
            go_roundw
            case rel =>
              obtain ⟨r', hr'⟩ := back_gw X r p1
              exact ⟨k + 1, r', by omega, by go_num, Lib.hid (by rw [any_take _ HY.out, hf.out, HE.out]; rfl), hr'⟩
            case measure => simp [intOf]; omega
          · have HW := Lib.hid (HM.out.trans (by rw [any_at (fun s => dep s _) HY.out HE.out, if_pos rfl]))
            go_wp2
            refine wp_region_gw (by kernel_rfl) (by kernel_rfl) ?_
            repeat (quiet_step (first | (go_at_call 18; exact DGives HD.out _ _)))
            refine wpQuiet_nil ?_
            intro _ hw'
            obtain ⟨p1, hw''⟩ := hw'
            subst hw''
            go_wp2
            have hB := below_gw (below_gw HB.out HB.out.size r) (by have := HB.out.size; simp; omega) p1
            (try simp only [Exit.inBlock, Exit.then])
            refine bodyPost_ret (results_tmp2 Try.results20 _ _ _) rfl ?_
            exact WoPost.none' HW.out hB
        · have HW := Lib.hid (HM.out.trans (by rw [any_full hlt hf.out, if_neg (by simp)]))
          have hXb := Lib.hid (below_gw HB.out HB.out.size r)
          have hX0 := HB.out.size
          have hmd := World.ownsRow_made (base := w.heap.size) (size := 4) (e := 30) (gw X r) #[] 0 (by simp; omega) (Nat.zero_le _) rfl
          rw [gw_size] at hmd
          have HMD := Lib.hid hmd
          clear hmd hf
          go_wp2_with (at_builtin; refine wpList_append_row rfl _ _ 41 rfl w.heap.size 30 i0 z0 4 64 rfl HI.out.1 HI.out.2.1 HI.out.2.2.1 HI.out.2.2.2.1 HI.out.2.2.2.2 (by omega) stC_len stC_one _ _ _ rfl HMD.out ad cap l HN.out rfl ((HS.out.row.gw r).below (by repeat (first | exact Below.refl _ _ | refine below_gw ?_ (by simp; try omega) _ | refine Below.alloc ?_ (by simp; try omega) _ | refine Below.setCell ?_ (by simp; try omega) _ | refine Below.drew ?_))) (by unfold maxLen; omega) (by omega) (by simp; omega) ?_; intro v' w5 hown hgrow _; have HO := Lib.hid (WoPost.some' HW.out (below_grown (hXb.out.alloc hXb.out.size _) hgrow (by simp; omega) (fun k hk => by cases hk; exact (by simp; omega))) (by simpa using hown)); clear hown hgrow; refine Stop.here ?_)
          refine Stop.on ?_
          go_wp2
          (try simp only [Exit.inBlock, Exit.then])
          refine bodyPost_ret (results_tmp2 Try.results20 _ _ _) rfl ?_
          exact HO.out

end Go.Proofs.Ytmgiojkdcpolfaa
