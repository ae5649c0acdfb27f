/- Line tables: Of, of the given program. -/
import Derived.Test.YthncoanmmnileaaTk
import Derived.Lib.ConvBytes
namespace Go.Proofs.Ythncoanmmnileaa
open Go.RowKit Go.Sort

theorem bytesWorld_below (w : World) (e : TypeId) (s : ByteArray) : Below w.heap.size w (Lib.bytesWorld w e s) :=
  ⟨by simp [Lib.bytesWorld, World.freeze, World.alloc, World.drew, -World.alloc_eq, -World.drew_eq], by simp [Lib.bytesWorld, World.freeze, World.alloc, World.drew, -World.alloc_eq, -World.drew_eq], by simp [Lib.bytesWorld, World.freeze, World.alloc, World.drew, -World.alloc_eq, -World.drew_eq], by rw [Lib.bytesWorld_size]; omega, fun k hk => Lib.bytesWorld_at_old w e s k hk⟩
theorem OfAt.behind {w wr w5 : World} {v : Value} {L : List Int} {sz : Int} (h : OfAt w wr v L sz) (hb : Below wr.heap.size wr w5) : OfAt w w5 v L sz := by
  have hs := h.size
  refine ⟨h.below.trans (hb.mono (by omega)), Nat.le_trans hs hb.size, ?_, ?_, own_of_block h.own fun g hg => hb.block g (h.own.lt g hg).2⟩
  · rw [hb.block _ (by omega)]; exact h.res
  · rw [hb.block _ (by omega)]; exact h.cell
theorem OfAt.other {w wr w5 : World} {v : Value} {L : List Int} {sz : Int} {o : Obj} (h : OfAt w wr v L sz) (hg : (wr.alloc o).grownBy w5 v.ownBlock) {x : Nat} {C : Array Value} {fr : Nat × Nat} (hx : wr.heap[x]? = some (.cells C 5 fr)) : w5.heap[x]? = some (.cells C 5 fr) := by
  have hlt := (Array.getElem?_eq_some_iff.1 hx).1
  have hne : some x ≠ v.ownBlock := by
    rcases h.own.2 with ⟨e, _⟩ | ⟨g, cap, cur, e, hb, hgg, _⟩
    · subst e; simp [Value.ownBlock]
    · subst e
      simp only [Value.ownBlock, ne_eq, Option.some.injEq]
      intro e
      subst e
      rw [hx] at hgg
      cases hgg
  rw [hg.block _ (by simp; omega) hne, heap_alloc_past' _ _ _ hlt]; exact hx

set_option maxHeartbeats 1000000 in
theorem ofL_any (s : ByteArray) (w : World) (hs : s.size ≤ 3000) :
    Calls Try.prog 11 #[.string s] w fun e w' => ∃ ad cap, e = .returned (tab ad (stL s s.size).length cap s.size) ∧ Below w.heap.size w w' ∧ RowAt w' ad (stL s s.size).length (fun i => (stL s s.size).getD i 0) ∧ (stL s s.size).length ≤ cap := by
  go_enter Try.func11, Try.ntmps11
  go_wp2
  rw [Lib.run_convert_string_bytes (P := Try.prog) (u := .string) _ 9 39 5 s (by kernel_rfl) (by kernel_rfl) (by kernel_rfl)]
  obtain ⟨W, hW⟩ : ∃ W, W = ((w.alloc (.cells #[.slice none 0 0, .int .i64 0] 25)).alloc (.cells #[.int .i64 0] 3)).alloc (.cells #[.slice (some ⟨w.heap.size + 1, 0, none⟩) 1 1, .int .i64 s.size] 25) := ⟨_, rfl⟩
  have hO : OfAt w W (.slice (some ⟨w.heap.size + 1, 0, none⟩) 1 1) (stL s 0) s.size := by
    rw [hW]
    refine ⟨(by repeat (first | exact Below.refl _ _ | refine below_gw ?_ (by simp; try omega) _ | refine Below.alloc ?_ (by simp; try omega) _ | refine Below.setCell ?_ (by simp; try omega) _ | refine Below.drew ?_)), by simp, ?_, ?_, ?_⟩
    · rw [heap_alloc_past' _ _ _ (by simp [Old]; omega), heap_alloc_past' _ _ _ (by simp [Old]), heap_alloc_at' w _ _ rfl]
    · rw [heap_alloc_at' _ _ _ (by simp)]
    · refine ⟨by simp [stL], .inr ⟨w.heap.size + 1, 1, #[iv 0], rfl, Nat.le_refl _, ?_, Nat.le_refl _, by decide, rfl, rfl⟩⟩
      rw [heap_alloc_past' _ _ _ (by simp [Old]), heap_alloc_at' _ _ _ (by simp)]
  have hWs : W.heap.size = w.heap.size + 3 := by rw [hW]; simp
  rw [← hW]
  have hO2 := hO.behind (bytesWorld_below W 5 s)
  have hx := Lib.bytesWorld_at_new W 5 s
  have hcell := Lib.bytesWorld_cell W 5 s
  rw [hWs] at hx hcell
  generalize Lib.bytesWorld W 5 s = W2 at *
  generalize grownCap W s.size 0 5 = gc at *
  rw [hWs]
  generalize Lib.bytesCells W 5 s = C at *
  have hCx : ∀ j (hj : j < s.size), C[j]? = some (.int .u8 (s[j]).toNat) := fun j hj => by
    rw [← row_cells hx j, hcell j hj]
    congr 3
    simp [List.getD, hj]
    rfl
  clear hcell hW hO hWs
  generalize ((C.size, C.size + 1) : Nat × Nat) = fr at *
  have HO2 := Lib.hid hO2
  have HX := Lib.hid hx
  have HCx := Lib.hid hCx
  clear hO2 hx hCx
  go_wp2
  go_loopw [13] (fun i wr => ∃ (k : Nat) (v : Value), k ≤ s.size ∧ i = .int .i64 k ∧ OfAt w wr v (stL s k) s.size ∧ wr.heap[w.heap.size + 3]? = some (.cells C 5 fr)) (fun i _ => s.size - (intOf i).toNat)
  case atStart => exact ⟨0, _, by omega, rfl, HO2.out, HX.out⟩
  case round =>
    obtain ⟨k, v, hk, rfl, ho, hx⟩ := hrel
    have HO := Lib.hid ho
    have HX2 := Lib.hid hx
    have c0 := (row_cells ho.cell 0)
    have c1 := (row_cells ho.cell 1)
    simp at c0 c1
    have o1 : Old (w.heap.size + 2) wr := by have := ho.size; simp only [Old]; omega
    by_cases hlt : k < s.size
    · have hb : (k : Int) < s.size := by omega
      have hd : s.data[k]?.getD 0 = s[k] := by
        have : k < s.data.size := hlt
        rw [Array.getElem?_eq_getElem this]; rfl
      have hl := stL_len s k
      have ck := (row_cells hx k).trans (HCx.out k hlt)
      have o2 : Old (w.heap.size + 3) wr := (Array.getElem?_eq_some_iff.1 hx).1
      clear ho hx
      by_cases h10 : s[k] = 10
      · have q0 : ((s[k].toNat : Int) == 10) = true := by rw [h10]; rfl
        have HN := Lib.hid (show stL s (k + 1) = stL s k ++ [(k : Int) + 1] by simp only [stL]; rw [hd, if_pos h10])
        have HL := Lib.hid (show (stL s k).length ≤ 3001 by omega)
        clear hl hd h10
        generalize stL s k = L at *
        go_wp2_with (refine wpList_append_own _ rfl _ _ 23 rfl (w.heap.size + 1) 3 _ _ 1 8 rfl rfl rfl rfl rfl rfl (by omega) v L.length (L.map iv) rfl (HO.out.own.alloc _) ⟨wr.heap.size, 0, none⟩ 1 1 [iv ((k : Int) + 1)] rfl rfl (news_one _ _ _) (by simp [Value.oneCell']) (by have := HL.out; simp only [maxLen]; omega) (by have := HL.out; omega) (by have := HO.out.size; simp; omega) ?_; intro v' w5 hown hgrow hnil; have HM := Lib.hid (HO.out.app hown hgrow); have HX3 := Lib.hid (HO.out.other hgrow HX2.out); clear hown hgrow hnil; refine Stop.here ?_)
        refine Stop.on ?_
        have d0 := row_cells HM.out.cell 0
        have fz := frozen_of_row w5 (w.heap.size + 2) 0 _ _ HM.out.cell
        simp at d0
        obtain ⟨ad', cap', hv'⟩ := own_slice HM.out.own
        rw [List.length_append, List.length_singleton] at hv'
        subst hv'
        go_wp2
        go_roundw
        case rel => exact ⟨k + 1, _, by omega, by go_num, by rw [HN.out]; exact HM.out.put, by rw [Below.heap_setCell _ _ _ _ (by simp)]; exact HX3.out⟩
        case measure => simp [intOf]; omega
      · have q0 : ((s[k].toNat : Int) == 10) = false := by
          rw [beq_eq_false_iff_ne]
          intro e
          exact h10 (u8_ten (by omega))
        have HN := Lib.hid (show stL s (k + 1) = stL s k by simp only [stL]; rw [hd, if_neg h10])
        clear hl hd h10
        go_wp2
        go_roundw
        case rel => exact ⟨k + 1, v, by omega, by go_num, by rw [HN.out]; exact HO.out, HX2.out⟩
        case measure => simp [intOf]; omega
    · have e : k = s.size := by omega
      subst e
      clear ho hx
      obtain ⟨ad, cap, hv⟩ := own_slice HO.out.own
      subst hv
      have e0 := row_cells HO.out.res 0
      have e1 := row_cells HO.out.res 1
      simp at e0 e1
      have f0 := frozen_of_row wr w.heap.size 0 _ _ HO.out.res
      have f1 := frozen_of_row wr w.heap.size 1 _ _ HO.out.res
      go_wp2
      have r1 := heap_setCell_same wr w.heap.size 0 _ _ (.slice ad (stL s s.size).length cap) HO.out.res
      have r2 := heap_setCell_same _ w.heap.size 1 _ _ (iv s.size) r1
      have hB : Below w.heap.size w ((wr.setCell ⟨w.heap.size, 0, none⟩ (.slice ad (stL s s.size).length cap)).setCell ⟨w.heap.size, 1, none⟩ (iv s.size)) := (HO.out.below.setCell (by simp) _).setCell (by simp) _
      have hO := ownsRow_setCell_below (ownsRow_setCell_below HO.out.own (a := ⟨w.heap.size, 0, none⟩) (by simp) (.slice ad (stL s s.size).length cap)) (a := ⟨w.heap.size, 1, none⟩) (by simp) (iv s.size)
      generalize (wr.setCell ⟨w.heap.size, 0, none⟩ (.slice ad (stL s s.size).length cap)).setCell ⟨w.heap.size, 1, none⟩ (iv s.size) = w9 at *
      simp at r2
      have hld := run_loadVar_row (P := Try.prog) w9 w.heap.size 25 25 _ (0, 0) _ r2 rfl (by kernel_rfl) (by kernel_rfl)
      have hrw := row_of_own hO
      exact bodyPost_ret (results_c Try.results11 _ _ _ _ rfl _ hld) rfl ⟨ad, cap, rfl, hB, hrw.1, hrw.2⟩

end Go.Proofs.Ythncoanmmnileaa
