/- Line tables: Of. -/
import Derived.Test.YthncoanmmnileaaTj
namespace Go.Proofs.Ythncoanmmnileaa
open Go.RowKit Go.Sort

/-- The line starts of a text's first k bytes. -/
def stL (s : ByteArray) : Nat → List Int
  | 0 => [0]
  | k + 1 => if s.data[k]?.getD 0 = 10 then stL s k ++ [(k : Int) + 1] else stL s k
theorem stL_len (s : ByteArray) : ∀ k, 0 < (stL s k).length ∧ (stL s k).length ≤ k + 1
  | 0 => by simp [stL]
  | k + 1 => by
    have := stL_len s k
    simp only [stL]; split
    · simp; omega
    · omega
abbrev iv (x : Int) : Value := .int .i64 x
structure OfAt (w wr : World) (v : Value) (L : List Int) (sz : Int) : Prop where
  below : Below w.heap.size w wr
  size : w.heap.size + 3 ≤ wr.heap.size
  res : wr.heap[w.heap.size]? = some (.cells #[.slice none 0 0, .int .i64 0] 25 (0, 0))
  cell : wr.heap[w.heap.size + 2]? = some (.cells #[v, .int .i64 sz] 25 (0, 0))
  own : wr.ownsRow (w.heap.size + 1) 3 1 v L.length (L.map iv)

theorem OfAt.apart {w wr : World} {v : Value} {L : List Int} {sz : Int} (h : OfAt w wr v L sz) : v.ownBlock ≠ some w.heap.size ∧ v.ownBlock ≠ some (w.heap.size + 2) := by
  rcases h.own.2 with ⟨e, _⟩ | ⟨g, cap, cur, e, hb, hg, _⟩
  · subst e; simp [Value.ownBlock]
  · subst e
    simp only [Value.ownBlock, ne_eq, Option.some.injEq]
    refine ⟨by omega, fun e => ?_⟩
    subst e
    rw [h.cell] at hg
    cases hg
/-- Behind an append, ahead of the store. -/
structure OfMid (w wr : World) (v v' : Value) (L : List Int) (sz : Int) : Prop where
  below : Below w.heap.size w wr
  size : w.heap.size + 3 ≤ wr.heap.size
  res : wr.heap[w.heap.size]? = some (.cells #[.slice none 0 0, .int .i64 0] 25 (0, 0))
  cell : wr.heap[w.heap.size + 2]? = some (.cells #[v, .int .i64 sz] 25 (0, 0))
  own : wr.ownsRow (w.heap.size + 1) 3 1 v' L.length (L.map iv)
theorem OfAt.app {w wr w5 : World} {v v' : Value} {L : List Int} {sz x : Int} {o : Obj} (h : OfAt w wr v L sz) (hown : w5.ownsRow (w.heap.size + 1) 3 1 v' (L.length + 1) (L.map iv ++ [iv x])) (hg : (wr.alloc o).grownBy w5 v.ownBlock) : OfMid w w5 v v' (L ++ [x]) sz := by
  obtain ⟨n1, n2⟩ := h.apart
  have hs := h.size
  have l0 : w.heap.size < (wr.alloc o).heap.size := by simp; omega
  have l2 : w.heap.size + 2 < (wr.alloc o).heap.size := by simp; omega
  refine ⟨below_grown (Below.alloc h.below (by omega) o) hg (by omega) (fun k hk => by have := (h.own.lt k hk).1; omega), ?_, ?_, ?_, ?_⟩
  · have := hg.size; simp at this; omega
  · rw [hg.block _ l0 (fun e => n1 e.symm), heap_alloc_past' _ _ _ (by simp only [Old]; omega)]; exact h.res
  · rw [hg.block _ l2 (fun e => n2 e.symm), heap_alloc_past' _ _ _ (by simp only [Old]; omega)]; exact h.cell
  · rw [List.length_append, List.map_append]; exact hown
theorem OfMid.put {w wr : World} {v v' : Value} {L : List Int} {sz : Int} (h : OfMid w wr v v' L sz) : OfAt w (wr.setCell ⟨w.heap.size + 2, 0, none⟩ v') v' L sz := by
  have hs := h.size
  refine ⟨h.below.setCell (by simp) _, by rw [World.size_setCell]; exact hs, ?_, ?_, ?_⟩
  · rw [Below.heap_setCell _ _ _ _ (by simp)]; exact h.res
  · have := heap_setCell_same wr (w.heap.size + 2) 0 _ _ v' h.cell
    simp at this
    exact this
  · refine ownsRow_setCell_other h.own ?_ _
    rcases h.own.2 with ⟨e, _⟩ | ⟨g, cap, cur, e, hb, hg, _⟩
    · subst e; simp [Value.ownBlock]
    · subst e
      simp only [Value.ownBlock, ne_eq, Option.some.injEq]
      intro e
      subst e
      rw [h.cell] at hg
      cases hg
theorem news_one (W : World) (x : Value) (t : TypeId) : ∀ j u, [x][j]? = some u → (W.alloc (.cells #[x] t)).cell? ((⟨W.heap.size, 0, none⟩ : Addr).add j) = some u := by
  intro j u hu
  cases j with
  | zero =>
    simp at hu
    subst hu
    simp [Addr.add]
  | succ j => simp at hu
theorem own_slice {w : World} {B : Nat} {e : TypeId} {size : Nat} {v : Value} {n : Nat} {xs : List Value} (h : w.ownsRow B e size v n xs) : ∃ ad cap, v = .slice ad n cap := by
  rcases h.2 with ⟨rfl, h0⟩ | ⟨g, cap, cur, rfl, _⟩
  · subst h0; exact ⟨none, 0, rfl⟩
  · exact ⟨_, _, rfl⟩
theorem u8_ten {x : UInt8} (h : x.toNat = 10) : x = 10 := UInt8.toNat_inj.1 (by rw [h]; rfl)
theorem row_of_own {w : World} {B : Nat} {ad : Option Addr} {cap : Nat} {L : List Int} (h : w.ownsRow B 3 1 (.slice ad L.length cap) L.length (L.map iv)) : RowAt w ad L.length (fun i => L.getD i 0) ∧ L.length ≤ cap := by
  have h' := h
  rcases h.2 with ⟨e, h0⟩ | ⟨g, cap', cur, e, hb, hg, hc, _⟩
  · exact ⟨fun h1 => by omega, by omega⟩
  · cases e
    refine ⟨fun h0 => ⟨g, 0, rfl, (Array.getElem?_eq_some_iff.1 hg).1, fun i hi => ?_⟩, hc⟩
    rw [Nat.zero_add]
    refine own_cell h' ?_
    rw [List.getElem?_map, List.getElem?_eq_getElem hi]
    simp [hi]
set_option maxHeartbeats 1000000 in
theorem ofR_any (s : ByteArray) (w : World) (hs : s.size ≤ 3000) :
    Calls Try.prog 13 #[.string s] w fun e w' => ∃ ad cap, e = .returned (tab ad (stL s s.size).length cap s.size) ∧ Below w.heap.size w w' ∧ RowAt w' ad (stL s s.size).length (fun i => (stL s s.size).getD i 0) ∧ (stL s s.size).length ≤ cap := by
  go_enter Try.func13, Try.ntmps13
  go_wp2
  go_loopw [4] (fun i wr => ∃ (k : Nat) (v : Value), k ≤ s.size ∧ i = .int .i64 k ∧ OfAt w wr v (stL s k) s.size) (fun i _ => s.size - (intOf i).toNat)
  case atStart =>
    refine ⟨0, .slice (some ⟨w.heap.size + 1, 0, none⟩) 1 1, by omega, rfl, ⟨(by repeat (first | exact Below.refl _ _ | refine below_gw ?_ (by simp; try omega) _ | refine Below.alloc ?_ (by simp; try omega) _ | refine Below.setCell ?_ (by simp; try omega) _ | refine Below.drew ?_)), by simp, ?_, ?_, ?_⟩⟩
    · rw [heap_alloc_past' _ _ _ (by simp [Old]; omega), heap_alloc_past' _ _ _ (by simp [Old]), heap_alloc_at' w _ _ rfl]
    · rw [heap_alloc_at' _ _ _ (by simp)]
    · refine ⟨by simp [stL], .inr ⟨w.heap.size + 1, 1, #[iv 0], rfl, Nat.le_refl _, ?_, Nat.le_refl _, by decide, rfl, rfl⟩⟩
      rw [heap_alloc_past' _ _ _ (by simp [Old]), heap_alloc_at' _ _ _ (by simp)]
  case round =>
    obtain ⟨k, v, hk, rfl, ho⟩ := hrel
    have HO := Lib.hid ho
    have c0 := (row_cells ho.cell 0)
    have c1 := (row_cells ho.cell 1)
    simp at c0 c1
    have o1 : Old (w.heap.size + 2) wr := by have := ho.size; simp only [Old]; omega
    clear ho
    by_cases hlt : k < s.size
    · have hb : (k : Int) < s.size := by omega
      have hd : s.data[k]?.getD 0 = s[k] := by
        have : k < s.data.size := hlt
        rw [Array.getElem?_eq_getElem this]; rfl
      have hl := stL_len s k
      by_cases h10 : s[k] = 10
      · have q0 : ((s[k].toNat : Int) == 10) = true := by rw [h10]; rfl
        have HN := Lib.hid (show stL s (k + 1) = stL s k ++ [(k : Int) + 1] by simp only [stL]; rw [hd, if_pos h10])
        have HL := Lib.hid (show (stL s k).length ≤ 3001 by omega)
        clear hl hd h10
        generalize stL s k = L at *
        go_wp2_with (refine wpList_append_own _ rfl _ _ 23 rfl (w.heap.size + 1) 3 _ _ 1 8 rfl rfl rfl rfl rfl rfl (by omega) v L.length (L.map iv) rfl (HO.out.own.alloc _) ⟨wr.heap.size, 0, none⟩ 1 1 [iv ((k : Int) + 1)] rfl rfl (news_one _ _ _) (by simp [Value.oneCell']) (by have := HL.out; simp only [maxLen]; omega) (by have := HL.out; omega) (by have := HO.out.size; simp; omega) ?_; intro v' w5 hown hgrow hnil; have HM := Lib.hid (HO.out.app hown hgrow); clear hown hgrow hnil; refine Stop.here ?_)
        refine Stop.on ?_
        have d0 := row_cells HM.out.cell 0
        have fz := frozen_of_row w5 (w.heap.size + 2) 0 _ _ HM.out.cell
        simp at d0
        obtain ⟨ad', cap', hv'⟩ := own_slice HM.out.own
        rw [List.length_append, List.length_singleton] at hv'
        subst hv'
        go_wp2
        go_roundw
        case rel => exact ⟨k + 1, _, by omega, by go_num, by rw [HN.out]; exact HM.out.put⟩
        case measure => simp [intOf]; omega
      · have q0 : ((s[k].toNat : Int) == 10) = false := by
          rw [beq_eq_false_iff_ne]
          intro e
          exact h10 (u8_ten (by omega))
        have HN := Lib.hid (show stL s (k + 1) = stL s k by simp only [stL]; rw [hd, if_neg h10])
        clear hl hd h10
        go_wp2
        go_roundw
        case rel => exact ⟨k + 1, v, by omega, by go_num, by rw [HN.out]; exact HO.out⟩
        case measure => simp [intOf]; omega
    · have e : k = s.size := by omega
      subst e
      obtain ⟨ad, cap, hv⟩ := own_slice HO.out.own
      subst hv
      have e0 := row_cells HO.out.res 0
      have e1 := row_cells HO.out.res 1
      simp at e0 e1
      have f0 := frozen_of_row wr w.heap.size 0 _ _ HO.out.res
      have f1 := frozen_of_row wr w.heap.size 1 _ _ HO.out.res
      go_wp2
      have r1 := heap_setCell_same wr w.heap.size 0 _ _ (.slice ad (stL s s.size).length cap) HO.out.res
      have r2 := heap_setCell_same _ w.heap.size 1 _ _ (iv s.size) r1
      have hB : Below w.heap.size w ((wr.setCell ⟨w.heap.size, 0, none⟩ (.slice ad (stL s s.size).length cap)).setCell ⟨w.heap.size, 1, none⟩ (iv s.size)) := (HO.out.below.setCell (by simp) _).setCell (by simp) _
      have hO := ownsRow_setCell_below (ownsRow_setCell_below HO.out.own (a := ⟨w.heap.size, 0, none⟩) (by simp) (.slice ad (stL s s.size).length cap)) (a := ⟨w.heap.size, 1, none⟩) (by simp) (iv s.size)
      generalize (wr.setCell ⟨w.heap.size, 0, none⟩ (.slice ad (stL s s.size).length cap)).setCell ⟨w.heap.size, 1, none⟩ (iv s.size) = w9 at *
      simp at r2
      have hld := run_loadVar_row (P := Try.prog) w9 w.heap.size 25 25 _ (0, 0) _ r2 rfl (by kernel_rfl) (by kernel_rfl)
      have hrw := row_of_own hO
      exact bodyPost_ret (results_c Try.results13 _ _ _ _ rfl _ hld) rfl ⟨ad, cap, rfl, hB, hrw.1, hrw.2⟩

end Go.Proofs.Ythncoanmmnileaa
