/- Tick and History: what each call returns. -/
import Derived.Test.YtkfngaobgnijmaaEv
import Derived.Test.YtkfngaobgnijmaaEpH
import Derived.Test.YtkfngaobgnijmaaOwn
namespace Go.Proofs.Ytkfngaobgnijmaa
open Go.RowKit Go.Sort

set_option maxHeartbeats 400000 in
theorem tick_any (c : Clk) (g : Nat) (w : World) (hg : g < 8) (hlo : 0 ≤ c g) (hhi : c g ≤ 1000) : Calls Try.prog 36 #[.agg (cl c), .int .i64 (g : Int)] w (Gives (.agg (cl (upd c g (c g + 1)))) w) := by
  have hc := cl_get c g hg
  have hmx : (c g == 9223372036854775807) = false := by rw [beq_eq_false_iff_ne]; omega
  go_enter Try.func36, Try.ntmps36
  go_wp2
  exact bodyPost_ret (v := .agg (cl (upd c g (c g + 1)))) (by simp [results, Try.results36, go_sem] <;> rfl) rfl (Gives.mk rfl (by repeat (first | exact Below.refl _ _ | refine below_gw ?_ (by simp; try omega) _ | refine Below.alloc ?_ (by simp; try omega) _ | refine Below.setCell ?_ (by simp; try omega) _ | refine Below.drew ?_)))

theorem tick_mod (c : Clk) (A : Nat) (w : World) (hb : 0 ≤ c (A % 8) ∧ c (A % 8) ≤ 1000) : Calls Try.prog 36 #[.agg (cl c), .int .i64 ((A : Int) % 8)] w (Gives (.agg (cl (upd c (A % 8) (c (A % 8) + 1)))) w) := by
  have h := tick_any c (A % 8) w (by omega) hb.1 hb.2
  rw [show ((A % 8 : Nat) : Int) = (A : Int) % 8 by omega] at h
  exact h
/-- Eight clocks as the cells of an array. -/
def cls (C : Cks) : Array Value := Array.ofFn (n := 64) fun i => .int .i64 (C (i.val / 8) (i.val % 8))
theorem cls_size (C : Cks) : (cls C).size = 64 := by simp [cls]
theorem cls_at (C : Cks) (i : Nat) (h : i < 64) : (cls C)[i]? = some (.int .i64 (C (i / 8) (i % 8))) := by
  unfold cls; rw [Array.getElem?_ofFn, dif_pos h]
theorem cls_none (C : Cks) (i : Nat) (h : ¬ i < 64) : (cls C)[i]? = none := by
  unfold cls; rw [Array.getElem?_ofFn, dif_neg h]
theorem cls_get (C : Cks) {j i : Nat} (hj : j < 8) (hi : i < 8) : (cls C)[j * 8 + i]? = some (.int .i64 (C j i)) := by
  rw [cls_at C _ (by omega), show (j * 8 + i) / 8 = j by omega, show (j * 8 + i) % 8 = i by omega]
theorem cls_splice (C : Cks) {j : Nat} (hj : j < 8) (c : Clk) : splice (cls C) (j * 8) (cl c) = cls (updC C j c) := by
  apply Array.ext_getElem?
  intro i
  rw [splice_get _ _ _ _ (by rw [cls_size, cl_size]; omega)]
  by_cases hi : i < 64
  · rw [cls_at (updC C j c) _ hi]
    by_cases h : j * 8 ≤ i ∧ i < j * 8 + (cl c).size
    · rw [cl_size] at h
      rw [if_pos (by rw [cl_size]; exact h), cl_get c _ (by omega)]
      simp only [updC]
      rw [if_pos (by omega), show i % 8 = i - j * 8 by omega]
    · rw [cl_size] at h
      rw [if_neg (by rw [cl_size]; exact h), cls_at C _ hi]
      simp only [updC]
      rw [if_neg (by omega)]
  · rw [cls_none _ _ hi, cls_none _ _ hi, if_neg (by rw [cl_size]; omega)]
theorem cls_congr {C D : Cks} (h : ∀ j, j < 8 → Eq8 (C j) (D j)) : cls C = cls D := by
  apply Array.ext_getElem?
  intro i
  by_cases hi : i < 64
  · rw [cls_at _ _ hi, cls_at _ _ hi, h (i / 8) (by omega) (i % 8) (by omega)]
  · rw [cls_none _ _ hi, cls_none _ _ hi]
theorem cls_one (C : Cks) : ∀ v ∈ (cls C).toList, v.oneCell' = true := by
  intro v hv
  rw [Array.mem_toList_iff] at hv
  obtain ⟨i, rfl⟩ := Array.mem_ofFn.1 hv
  rfl
theorem own_base {w : World} {B B' : Nat} {e : TypeId} {size : Nat} {v : Value} {n : Nat} {xs : List Value} (h : w.ownsRow B e size v n xs) (hb : B' ≤ B) : w.ownsRow B' e size v n xs := by
  refine ⟨h.1, ?_⟩
  rcases h.2 with hn | ⟨g, cap, cur, rfl, hbb, rest⟩
  · exact .inl hn
  · exact .inr ⟨g, cap, cur, rfl, Nat.le_trans hb hbb, rest⟩
def rcell (r : Rd1) : List Value := .int .i64 r.g :: .int .i64 r.n :: (cl r.c).toList
def rcells (R : List Rd1) : List Value := R.flatMap rcell
theorem rcells_snoc (R : List Rd1) (r : Rd1) : rcells (R ++ [r]) = rcells R ++ rcell r := by simp [rcells]
/-- The history's slice in memory. -/
def OpsAt (w : World) (v : Value) (len : Nat) (l : Nat → Nat × Nat) : Prop := ∃ ad cap, v = .slice ad len cap ∧ (0 < len → ∃ b off, ad = some ⟨b, off, none⟩ ∧ Old b w ∧ ∀ i, i < len → w.cell? ⟨b, off + i * 2, none⟩ = some (.int .u8 ((l i).1 : Nat)) ∧ w.cell? ⟨b, off + i * 2 + 1, none⟩ = some (.int .u8 ((l i).2 : Nat)) ∧ (l i).1 < 256 ∧ (l i).2 < 256)
/-- What the history has made after some steps. -/
def HistAt (w wr : World) (C : Cks) (v : Value) (R : List Rd1) : Prop :=
  Below w.heap.size w wr ∧ wr.heap[w.heap.size]? = some (.cells (cls fun _ => zc) 41 (0, 0)) ∧ wr.heap[w.heap.size + 1]? = some (.cells (cls C) 41 (0, 0)) ∧ wr.ownsRow (w.heap.size + 2) 45 10 v R.length (rcells R)

theorem HistAt.gw {w wr : World} {C : Cks} {v : Value} {R : List Rd1} (h : HistAt w wr C v R) (p : Regrown) : HistAt w (gw wr p) C v R := by
  obtain ⟨a, b, c, d⟩ := h
  have l0 := (Array.getElem?_eq_some_iff.1 b).1
  have l1 := (Array.getElem?_eq_some_iff.1 c).1
  exact ⟨below_gw a (by omega) p, by rw [gw_heap _ _ _ l0]; exact b, by rw [gw_heap _ _ _ l1]; exact c, own_gw d p⟩
theorem HistAt.set {w wr : World} {C : Cks} {v : Value} {R : List Rd1} (h : HistAt w wr C v R) {j : Nat} (hj : j < 8) (c : Clk) : HistAt w (wr.setRow (w.heap.size + 1) (splice (cls C) (j * 8) (cl c))) (updC C j c) v R := by
  obtain ⟨a, b, e, d⟩ := h
  refine ⟨below_setRow' a (by omega) _, ?_, ?_, own_setRow d (by omega) _⟩
  · rw [setRow_other _ _ _ _ (by omega)]; exact b
  · rw [cls_splice _ hj]; exact setRow_heap _ _ _ _ _ _ e
theorem HistAt.app {w wr wr' : World} {C : Cks} {v v' : Value} {R : List Rd1} {r : Rd1} (h : HistAt w wr C v R) (ho : wr'.ownsRow (w.heap.size + 2) 45 10 v' (R.length + 1) (rcells R ++ rcell r)) (hg : wr.grownBy wr' v.ownBlock) : HistAt w wr' C v' (R ++ [r]) := by
  obtain ⟨a, b, e, d⟩ := h
  have l0 := (Array.getElem?_eq_some_iff.1 b).1
  have l1 := (Array.getElem?_eq_some_iff.1 e).1
  refine ⟨below_grown a hg (by omega) fun k hk => by have := (d.lt k hk).1; omega, ?_, ?_, ?_⟩
  · rw [hg.block _ l0 (fun q => by have := (d.lt _ q.symm).1; omega)]; exact b
  · rw [hg.block _ l1 (fun q => by have := (d.lt _ q.symm).1; omega)]; exact e
  · rw [rcells_snoc, List.length_append]; exact ho
theorem HistAt.drew {w wr : World} {C : Cks} {v : Value} {R : List Rd1} (h : HistAt w wr C v R) : HistAt w wr.drew C v R := by
  obtain ⟨a, b, c, d⟩ := h
  exact ⟨⟨a.os, a.tape, a.output, a.size, a.block⟩, b, c, own_of_block d (fun _ _ => rfl)⟩
theorem HistAt.congr {w wr : World} {C D : Cks} {v : Value} {R : List Rd1} (h : HistAt w wr C v R) (e : C = D) : HistAt w wr D v R := e ▸ h
theorem HistAt.alloc {w wr : World} {C : Cks} {v : Value} {R : List Rd1} (h : HistAt w wr C v R) (o : Obj) : HistAt w (wr.alloc o) C v R := by
  obtain ⟨a, b, c, d⟩ := h
  have l0 := (Array.getElem?_eq_some_iff.1 b).1
  have l1 := (Array.getElem?_eq_some_iff.1 c).1
  exact ⟨Below.alloc a (by omega) o, (heap_alloc_past' _ _ _ l0).trans b, (heap_alloc_past' _ _ _ l1).trans c, d.alloc o⟩

theorem results_tc {fn : Func} {t a : Tmp} {ty : TypeId} (h : fn.results = #[.tmp t, .cell a ty]) (tmps : Array Value) (P : Program) (w : World) (p : Addr) (hp : tmps.getD a undef = .pointer (some p)) (x : Value) (hl : (loadVar ty p).run P w = .ok x w) :
    (results fn tmps).run P w = .ok (.tuple #[tmps.getD t undef, x]) w := by
  have hp' : tmps[a]?.getD undef = .pointer (some p) := by simpa using hp
  simp [results, h, hp', asAddr, hl]
theorem HistAt.done {w wr : World} {C : Cks} {v : Value} {R : List Rd1} (h : HistAt w wr C v R) : (wr.setRow w.heap.size (cls C)).heap[w.heap.size]? = some (.cells (cls C) 41 (0, 0)) ∧ Below w.heap.size w (wr.setRow w.heap.size (cls C)) ∧ (wr.setRow w.heap.size (cls C)).ownsRow w.heap.size 45 10 v R.length (rcells R) := by
  obtain ⟨a, b, c, d⟩ := h
  exact ⟨setRow_heap _ _ _ (cls C) _ _ b, below_setRow' a (Nat.le_refl _) _, own_base (own_setRow d (by omega) _) (by omega)⟩

set_option maxHeartbeats 1000000 in
theorem hist_any (v : Value) (len : Nat) (l : Nat → Nat × Nat) (w : World) (hl : OpsAt w v len l) (h60 : len ≤ 60) :
    Calls Try.prog 25 #[v] w fun e w' => ∃ v', e = .returned (.tuple #[v', .agg (cls (histC l len))]) ∧ Below w.heap.size w w' ∧ w'.ownsRow w.heap.size 45 10 v' (histR l len).length (rcells (histR l len)) := by
  obtain ⟨ad, cap, rfl, hcells⟩ := hl
  have HC := Lib.hid hcells; clear hcells
  go_enter Try.func25, Try.ntmps25
  go_wp2
  go_loopw [5, 6] (fun v i wr => ∃ k : Nat, k ≤ len ∧ i = .int .i64 k ∧ HistAt w wr (histC l k) v (histR l k)) (fun _ i _ => len - (intOf i).toNat)
  case atStart =>
    refine ⟨0, by omega, rfl, ?_⟩
    refine ⟨?_, ?_, ?_, ?_⟩
    · exact ((Below.refl _ w).alloc (Nat.le_refl _) _).alloc (by simp) _
    · rw [heap_alloc_past' _ _ _ (by simp [Old]), heap_alloc_at' w _ _ rfl]
      kernel_rfl
    · rw [heap_alloc_at' _ _ _ (by simp)]
      kernel_rfl
    · exact ⟨by simp [histR, rcells], .inl ⟨rfl, rfl⟩⟩
  case round =>
    obtain ⟨k, hk, rfl, hh⟩ := hrel
    by_cases hlt : k < len
    · obtain ⟨b, off, rfl, hold, hcs⟩ := HC.out (by omega)
      obtain ⟨c1, c2, n1, n2⟩ := hcs k hlt
      clear hcs
      have HH := Lib.hid hh
      obtain ⟨hb, hh0, hh1, hown⟩ := hh
      have d1 := (hb.cell (p := ⟨b, off + k * 2, none⟩) hold.lt).trans c1
      have d2 := (hb.cell (p := ⟨b, off + k * 2 + 1, none⟩) hold.lt).trans c2
      have hold' : Old b wr := Nat.lt_of_lt_of_le hold.lt hb.size
      have hold1 : Old (w.heap.size + 1) wr := (Array.getElem?_eq_some_iff.1 hh1).1
      have hf := hist_fit l k (by omega)
      have hR := row_cells hh1
      clear c1 c2
      clear hb hh0 hh1 hown
      have hr : histR l (k + 1) = stepR (histC l k) (histR l k) (l k).1 (l k).2 := rfl
      have hc : histC l (k + 1) = stepC (histC l k) (l k).1 (l k).2 := rfl
      generalize histC l k = C at *
      generalize histR l k = R at *
      have HC := Lib.hid hc
      have HR := Lib.hid hr
      generalize (l k).1 = ga at *
      generalize (l k).2 = fa at *
      clear hc hr
      by_cases hgf : ga % 8 = fa % 8
      · have q0 : ((ga : Int) % 8 == (fa : Int) % 8) = true := by rw [beq_iff_eq]; omega
        have hx0 : wr.cell? ⟨w.heap.size + 1, ga % 8 * 8 + 0, none⟩ = some (.int .i64 (C (ga % 8) 0)) := (hR _).trans (cls_get C (by omega) (by omega))
        have hx1 : wr.cell? ⟨w.heap.size + 1, ga % 8 * 8 + 1, none⟩ = some (.int .i64 (C (ga % 8) 1)) := (hR _).trans (cls_get C (by omega) (by omega))
        have hx2 : wr.cell? ⟨w.heap.size + 1, ga % 8 * 8 + 2, none⟩ = some (.int .i64 (C (ga % 8) 2)) := (hR _).trans (cls_get C (by omega) (by omega))
        have hx3 : wr.cell? ⟨w.heap.size + 1, ga % 8 * 8 + 3, none⟩ = some (.int .i64 (C (ga % 8) 3)) := (hR _).trans (cls_get C (by omega) (by omega))
        have hx4 : wr.cell? ⟨w.heap.size + 1, ga % 8 * 8 + 4, none⟩ = some (.int .i64 (C (ga % 8) 4)) := (hR _).trans (cls_get C (by omega) (by omega))
        have hx5 : wr.cell? ⟨w.heap.size + 1, ga % 8 * 8 + 5, none⟩ = some (.int .i64 (C (ga % 8) 5)) := (hR _).trans (cls_get C (by omega) (by omega))
        have hx6 : wr.cell? ⟨w.heap.size + 1, ga % 8 * 8 + 6, none⟩ = some (.int .i64 (C (ga % 8) 6)) := (hR _).trans (cls_get C (by omega) (by omega))
        have hx7 : wr.cell? ⟨w.heap.size + 1, ga % 8 * 8 + 7, none⟩ = some (.int .i64 (C (ga % 8) 7)) := (hR _).trans (cls_get C (by omega) (by omega))
        simp only [Nat.add_zero] at hx0
        have HG := Lib.hid hgf
        have HF := Lib.hid hf
        have HL := Lib.hid (show R.length ≤ 60 by have := hf.len; omega)
        have HB1 := Lib.hid (show 0 ≤ C (ga % 8) (ga % 8) ∧ C (ga % 8) (ga % 8) ≤ 1000 by have := hf.pos (ga % 8) (ga % 8) (by omega) (by omega); omega)
        clear hf hR hgf
        go_wp2
        refine wp_region_gw (by kernel_rfl) (by kernel_rfl) ?_
        repeat (quiet_step (first | fail))
        refine wpQuiet_nil ?_
        intro _ hw'
        obtain ⟨p1, hw''⟩ := hw'
        subst hw''
        go_wp2_with (first | (go_at_call 36; refine (tick_mod _ _ _ HB1.out).mono ?_; rintro e w1 ⟨rfl, p2, rfl⟩) | ((refine wpList_store_at rfl 23 _ _ rfl rfl (w.heap.size + 1) (ga % 8 * 8) rfl (cl (upd (C (ga % 8)) (ga % 8) (C (ga % 8) (ga % 8) + 1))) rfl 41 (cls C) ((HH.out.gw _).gw _).2.2.1 (by rw [cls_size]; simp [cl]; omega) (by kernel_rfl) (by simp [cl, Value.oneCell']) ?_); generalize hwr2 : World.setRow _ _ _ = wr2))
        have hD : updC C (ga % 8) (upd (C (ga % 8)) (ga % 8) (C (ga % 8) (ga % 8) + 1)) = stepC C ga fa := by
          unfold stepC; rw [if_pos HG.out, tick_eq (by omega) (by have := HB1.out; omega)]
        have hh2 : HistAt w wr2 (stepC C ga fa) u5 R := by
          rw [← hwr2, ← hD]; exact ((HH.out.gw _).gw _).set (by omega) _
        have HR2 := Lib.hid (show histR l (k + 1) = R ++ [⟨(ofM (stepC C ga fa (ga % 8)) (ga % 8 : Nat)).1, (ofM (stepC C ga fa (ga % 8)) (ga % 8 : Nat)).2, stepC C ga fa (ga % 8)⟩] by rw [HR.out]; unfold stepR; rw [if_pos HG.out])
        clear hx0 hx1 hx2 hx3 hx4 hx5 hx6 hx7 hwr2 hD HH hold1 HB1 HF HR d1 d2 hold hold'
        generalize stepC C ga fa = D at *
        have hR := row_cells hh2.2.2.1
        have hold1 : Old (w.heap.size + 1) wr2 := (Array.getElem?_eq_some_iff.1 hh2.2.2.1).1
        have hx0 : wr2.cell? ⟨w.heap.size + 1, ga % 8 * 8 + 0, none⟩ = some (.int .i64 (D (ga % 8) 0)) := (hR _).trans (cls_get D (by omega) (by omega))
        have hx1 : wr2.cell? ⟨w.heap.size + 1, ga % 8 * 8 + 1, none⟩ = some (.int .i64 (D (ga % 8) 1)) := (hR _).trans (cls_get D (by omega) (by omega))
        have hx2 : wr2.cell? ⟨w.heap.size + 1, ga % 8 * 8 + 2, none⟩ = some (.int .i64 (D (ga % 8) 2)) := (hR _).trans (cls_get D (by omega) (by omega))
        have hx3 : wr2.cell? ⟨w.heap.size + 1, ga % 8 * 8 + 3, none⟩ = some (.int .i64 (D (ga % 8) 3)) := (hR _).trans (cls_get D (by omega) (by omega))
        have hx4 : wr2.cell? ⟨w.heap.size + 1, ga % 8 * 8 + 4, none⟩ = some (.int .i64 (D (ga % 8) 4)) := (hR _).trans (cls_get D (by omega) (by omega))
        have hx5 : wr2.cell? ⟨w.heap.size + 1, ga % 8 * 8 + 5, none⟩ = some (.int .i64 (D (ga % 8) 5)) := (hR _).trans (cls_get D (by omega) (by omega))
        have hx6 : wr2.cell? ⟨w.heap.size + 1, ga % 8 * 8 + 6, none⟩ = some (.int .i64 (D (ga % 8) 6)) := (hR _).trans (cls_get D (by omega) (by omega))
        have hx7 : wr2.cell? ⟨w.heap.size + 1, ga % 8 * 8 + 7, none⟩ = some (.int .i64 (D (ga % 8) 7)) := (hR _).trans (cls_get D (by omega) (by omega))
        simp only [Nat.add_zero] at hx0
        have HH2 := Lib.hid hh2; clear hh2 hR
        have ht : ((ga : Int) % 8).toNat = ga % 8 := by omega
        refine wp_region_qm 11 [10] (by kernel_rfl) (by kernel_rfl) (by simp [quietOps, List.range, List.range.loop]; rfl) (by simp [makerOps]; rfl) (by simp; rfl) ?_
        repeat (refine wpG_step (fun K hK => ?_); go_simp; first | (refine hK _ ?_; clear hK K) | (apply Exists.intro; refine ⟨fun _ => ?_, hK _ ?_⟩; (first | (go_at_call 13; exact ofR_any (D (ga % 8)) _ _)); clear hK K))
        refine wpG_nil ?_
        refine ⟨[(fun b => .slice (some ⟨b, 0, none⟩) 1 1, .cells (rcell ⟨(ofM (D (ga % 8)) (ga % 8 : Nat)).1, (ofM (D (ga % 8)) (ga % 8 : Nat)).2, D (ga % 8)⟩).toArray 45)], ⟨rfl, fun p => ?_, trivial⟩, ?_⟩
        · simp [makes, go_sem] <;> rfl
        intro bs hl hnd hb q hh
        match bs, hl with
        | [b8], _ =>
          obtain ⟨hh8, _⟩ := hh
          generalize hA : putMk _ _ _ _ = AA
          simp [putMk, Act.put] at hA
          subst hA
          have hh9 := (HH2.out.drew).gw q
          refine wpList_append_own _ rfl _ _ 40 rfl (w.heap.size + 2) 45 _ _ 10 80 rfl rfl rfl rfl rfl rfl (by omega) u5 R.length (rcells R) rfl hh9.2.2.2 ⟨b8, 0, none⟩ 1 1 (rcell ⟨(ofM (D (ga % 8)) (ga % 8 : Nat)).1, (ofM (D (ga % 8)) (ga % 8 : Nat)).2, D (ga % 8)⟩) rfl rfl ?_ ?_ ?_ ?_ ?_ ?_
          · intro j u hu
            have hj := row_cells hh8 j
            rw [List.getElem?_toArray, hu] at hj
            rw [← hj]; simp only [Addr.add]; split <;> simp_all
          · simp [rcell, cl, Value.oneCell']
          · have := HL.out; simp only [maxLen]; omega
          · have := HL.out; omega
          · have := hold1.lt; simp; omega
          intro v' w' ho hgb _
          go_wp2
          go_roundw
          case rel => exact ⟨k + 1, by omega, by go_num, by rw [HC.out, HR2.out]; exact hh9.app ho hgb⟩
          case measure => simp [intOf]; omega
      · have q0 : ((ga : Int) % 8 == (fa : Int) % 8) = false := by rw [beq_eq_false_iff_ne]; omega
        have hx0 : wr.cell? ⟨w.heap.size + 1, fa % 8 * 8 + 0, none⟩ = some (.int .i64 (C (fa % 8) 0)) := (hR _).trans (cls_get C (by omega) (by omega))
        have hx1 : wr.cell? ⟨w.heap.size + 1, fa % 8 * 8 + 1, none⟩ = some (.int .i64 (C (fa % 8) 1)) := (hR _).trans (cls_get C (by omega) (by omega))
        have hx2 : wr.cell? ⟨w.heap.size + 1, fa % 8 * 8 + 2, none⟩ = some (.int .i64 (C (fa % 8) 2)) := (hR _).trans (cls_get C (by omega) (by omega))
        have hx3 : wr.cell? ⟨w.heap.size + 1, fa % 8 * 8 + 3, none⟩ = some (.int .i64 (C (fa % 8) 3)) := (hR _).trans (cls_get C (by omega) (by omega))
        have hx4 : wr.cell? ⟨w.heap.size + 1, fa % 8 * 8 + 4, none⟩ = some (.int .i64 (C (fa % 8) 4)) := (hR _).trans (cls_get C (by omega) (by omega))
        have hx5 : wr.cell? ⟨w.heap.size + 1, fa % 8 * 8 + 5, none⟩ = some (.int .i64 (C (fa % 8) 5)) := (hR _).trans (cls_get C (by omega) (by omega))
        have hx6 : wr.cell? ⟨w.heap.size + 1, fa % 8 * 8 + 6, none⟩ = some (.int .i64 (C (fa % 8) 6)) := (hR _).trans (cls_get C (by omega) (by omega))
        have hx7 : wr.cell? ⟨w.heap.size + 1, fa % 8 * 8 + 7, none⟩ = some (.int .i64 (C (fa % 8) 7)) := (hR _).trans (cls_get C (by omega) (by omega))
        simp only [Nat.add_zero] at hx0
        have HG := Lib.hid hgf
        have HL := Lib.hid (show R.length ≤ 60 by have := hf.len; omega)
        have HB1 := Lib.hid (show 0 ≤ C (fa % 8) (fa % 8) ∧ C (fa % 8) (fa % 8) ≤ 1000 by have := hf.pos (fa % 8) (fa % 8) (by omega) (by omega); omega)
        clear hf hR hgf
        go_wp2
        refine wp_region_gw (by kernel_rfl) (by kernel_rfl) ?_
        repeat (quiet_step (first | fail))
        refine wpQuiet_nil ?_
        intro _ hw'
        obtain ⟨p1, hw''⟩ := hw'
        subst hw''
        go_wp2_with (first | (go_at_call 36; refine (tick_mod _ _ _ HB1.out).mono ?_; rintro e w1 ⟨rfl, p2, rfl⟩) | ((refine wpList_store_at rfl 23 _ _ rfl rfl (w.heap.size + 1) (fa % 8 * 8) rfl (cl (upd (C (fa % 8)) (fa % 8) (C (fa % 8) (fa % 8) + 1))) rfl 41 (cls C) ((HH.out.gw _).gw _).2.2.1 (by rw [cls_size]; simp [cl]; omega) (by kernel_rfl) (by simp [cl, Value.oneCell']) ?_); generalize hwr2 : World.setRow _ _ _ = wr2))
        have hD : updC C (fa % 8) (upd (C (fa % 8)) (fa % 8) (C (fa % 8) (fa % 8) + 1)) = updC C (fa % 8) (tickM (C (fa % 8)) (fa % 8 : Nat)) := by
          rw [tick_eq (by omega) (by have := HB1.out; omega)]
        have hh2 : HistAt w wr2 (updC C (fa % 8) (tickM (C (fa % 8)) (fa % 8 : Nat))) u5 R := by
          rw [← hwr2, ← hD]; exact ((HH.out.gw _).gw _).set (by omega) _
        have HC2 := Lib.hid (show histC l (k + 1) = updC (updC C (fa % 8) (tickM (C (fa % 8)) (fa % 8 : Nat))) (ga % 8) (joinM ((updC C (fa % 8) (tickM (C (fa % 8)) (fa % 8 : Nat))) (ga % 8)) ((updC C (fa % 8) (tickM (C (fa % 8)) (fa % 8 : Nat))) (fa % 8)) 8) by rw [HC.out]; unfold stepC; rw [if_neg HG.out])
        have HR2 := Lib.hid (show histR l (k + 1) = R by rw [HR.out]; unfold stepR; rw [if_neg HG.out])
        clear hx0 hx1 hx2 hx3 hx4 hx5 hx6 hx7 hwr2 hD HH hold1 HB1 HC HR d1 d2 hold hold'
        generalize updC C (fa % 8) (tickM (C (fa % 8)) (fa % 8 : Nat)) = D at *
        have hR := row_cells hh2.2.2.1
        have hold1 : Old (w.heap.size + 1) wr2 := (Array.getElem?_eq_some_iff.1 hh2.2.2.1).1
        have hx0 : wr2.cell? ⟨w.heap.size + 1, fa % 8 * 8 + 0, none⟩ = some (.int .i64 (D (fa % 8) 0)) := (hR _).trans (cls_get D (by omega) (by omega))
        have hx1 : wr2.cell? ⟨w.heap.size + 1, fa % 8 * 8 + 1, none⟩ = some (.int .i64 (D (fa % 8) 1)) := (hR _).trans (cls_get D (by omega) (by omega))
        have hx2 : wr2.cell? ⟨w.heap.size + 1, fa % 8 * 8 + 2, none⟩ = some (.int .i64 (D (fa % 8) 2)) := (hR _).trans (cls_get D (by omega) (by omega))
        have hx3 : wr2.cell? ⟨w.heap.size + 1, fa % 8 * 8 + 3, none⟩ = some (.int .i64 (D (fa % 8) 3)) := (hR _).trans (cls_get D (by omega) (by omega))
        have hx4 : wr2.cell? ⟨w.heap.size + 1, fa % 8 * 8 + 4, none⟩ = some (.int .i64 (D (fa % 8) 4)) := (hR _).trans (cls_get D (by omega) (by omega))
        have hx5 : wr2.cell? ⟨w.heap.size + 1, fa % 8 * 8 + 5, none⟩ = some (.int .i64 (D (fa % 8) 5)) := (hR _).trans (cls_get D (by omega) (by omega))
        have hx6 : wr2.cell? ⟨w.heap.size + 1, fa % 8 * 8 + 6, none⟩ = some (.int .i64 (D (fa % 8) 6)) := (hR _).trans (cls_get D (by omega) (by omega))
        have hx7 : wr2.cell? ⟨w.heap.size + 1, fa % 8 * 8 + 7, none⟩ = some (.int .i64 (D (fa % 8) 7)) := (hR _).trans (cls_get D (by omega) (by omega))
        simp only [Nat.add_zero] at hx0
        have hy0 : wr2.cell? ⟨w.heap.size + 1, ga % 8 * 8 + 0, none⟩ = some (.int .i64 (D (ga % 8) 0)) := (hR _).trans (cls_get D (by omega) (by omega))
        have hy1 : wr2.cell? ⟨w.heap.size + 1, ga % 8 * 8 + 1, none⟩ = some (.int .i64 (D (ga % 8) 1)) := (hR _).trans (cls_get D (by omega) (by omega))
        have hy2 : wr2.cell? ⟨w.heap.size + 1, ga % 8 * 8 + 2, none⟩ = some (.int .i64 (D (ga % 8) 2)) := (hR _).trans (cls_get D (by omega) (by omega))
        have hy3 : wr2.cell? ⟨w.heap.size + 1, ga % 8 * 8 + 3, none⟩ = some (.int .i64 (D (ga % 8) 3)) := (hR _).trans (cls_get D (by omega) (by omega))
        have hy4 : wr2.cell? ⟨w.heap.size + 1, ga % 8 * 8 + 4, none⟩ = some (.int .i64 (D (ga % 8) 4)) := (hR _).trans (cls_get D (by omega) (by omega))
        have hy5 : wr2.cell? ⟨w.heap.size + 1, ga % 8 * 8 + 5, none⟩ = some (.int .i64 (D (ga % 8) 5)) := (hR _).trans (cls_get D (by omega) (by omega))
        have hy6 : wr2.cell? ⟨w.heap.size + 1, ga % 8 * 8 + 6, none⟩ = some (.int .i64 (D (ga % 8) 6)) := (hR _).trans (cls_get D (by omega) (by omega))
        have hy7 : wr2.cell? ⟨w.heap.size + 1, ga % 8 * 8 + 7, none⟩ = some (.int .i64 (D (ga % 8) 7)) := (hR _).trans (cls_get D (by omega) (by omega))
        simp only [Nat.add_zero] at hy0
        have HH2 := Lib.hid hh2; clear hh2 hR
        have hga : 0 ≤ (ga : Int) % 8 ∧ (ga : Int) % 8 < 8 := by omega
        have ht : ((ga : Int) % 8).toNat = ga % 8 := by omega
        have ht2 : ((fa : Int) % 8).toNat = fa % 8 := by omega
        refine wp_region_qm 9 [] (by kernel_rfl) (by kernel_rfl) (by simp [quietOps, List.range, List.range.loop]; rfl) (by simp [makerOps]; rfl) (by simp; rfl) ?_
        repeat (refine wpG_step (fun K hK => ?_); go_simp; first | (refine hK _ ?_; clear hK K) | (apply Exists.intro; refine ⟨fun _ => ?_, hK _ ?_⟩; (first | (go_at_call 23; exact join_any (D (ga % 8)) (D (fa % 8)) _)); clear hK K))
        refine wpG_nil ?_
        refine ⟨[], trivial, ?_⟩
        intro bs hl hnd hb q hh
        match bs, hl with
        | [], _ =>
          generalize hA : putMk _ _ _ _ = AA
          simp [putMk] at hA
          subst hA
          have hh9 := (HH2.out.drew).gw q
          refine wpList_store_at rfl 23 _ _ rfl rfl (w.heap.size + 1) (ga % 8 * 8) rfl (cl (joinM (D (ga % 8)) (D (fa % 8)) 8)) rfl 41 (cls D) hh9.2.2.1 (by rw [cls_size]; simp [cl]; omega) (by kernel_rfl) (by simp [cl, Value.oneCell']) ?_
          have hh10 := hh9.set (j := ga % 8) (by omega) (joinM (D (ga % 8)) (D (fa % 8)) 8)
          generalize World.setRow _ _ _ = wr3 at *
          go_wp2
          go_roundw
          case rel => exact ⟨k + 1, by omega, by go_num, by rw [HC2.out, HR2.out]; exact hh10⟩
          case measure => simp [intOf]; omega
    · have hkl : k = len := by omega
      subst hkl
      go_wp2
      refine wp_region_qm 3 [] (by kernel_rfl) (by kernel_rfl) (by simp [quietOps, List.range, List.range.loop]; rfl) (by simp [makerOps]; rfl) (by simp; rfl) ?_
      refine wpG_step (fun K hK => ?_); go_simp; refine hK _ ?_; clear hK K
      refine wpG_load_row rfl 41 _ rfl (w.heap.size + 1) rfl 41 (cls (histC l k)) (0, 0) hh.drew.2.2.1 (by kernel_rfl) (by rw [cls_size]; kernel_rfl) ?_
      simp [Act.put]
      refine wpG_step (fun K hK => ?_); go_simp; refine hK _ ?_; clear hK K
      refine wpG_nil ?_
      refine ⟨[], trivial, ?_⟩
      intro q _
      generalize hA : putMk _ _ _ _ = AA
      simp [putMk] at hA
      subst hA
      have hh9 := (hh.drew).gw q
      refine wpList_store_row rfl 41 _ _ rfl rfl w.heap.size rfl (cls (histC l k)) rfl _ _ hh9.2.1 (by rw [cls_size, cls_size]) (by rw [cls_size]; kernel_rfl) (cls_one _) ?_
      obtain ⟨hrow, hbel, hown⟩ := hh9.done
      generalize World.setRow _ _ _ = wr3 at *
      go_wp2
      have hld := run_loadVar_row (P := Try.prog) wr3 w.heap.size 41 41 (cls (histC l k)) (0, 0) _ hrow rfl (by kernel_rfl) (by rw [cls_size]; kernel_rfl)
      exact bodyPost_ret (results_tc Try.results25 _ _ _ ⟨w.heap.size, 0, none⟩ rfl _ hld) rfl ⟨u5, rfl, hbel, hown⟩

end Go.Proofs.Ytkfngaobgnijmaa
