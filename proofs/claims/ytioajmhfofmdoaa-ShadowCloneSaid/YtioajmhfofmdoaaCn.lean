/- Clone of the given memory. -/
import Derived.Test.YtioajmhfofmdoaaHl
import Derived.Shelf.SlMaps.Clone
import Derived.Ground.SlmcProg
namespace Go.Proofs
open Go.Shelf Go.RowKit Go.Lib Go.Maps
def Ytioajmhfofmdoaa.cloneK_ren : Go.Shelf.Ren := ⟨fun | 5 => 32 | 7 => 38 | n => n, fun | 23 => 59 | 25 => 67 | 3 => 65 | 4 => 4 | 20 => 20 | n => n, fun | n => n⟩
theorem Ytioajmhfofmdoaa.cloneK : Go.Proofs.SlLaysW.n5 Try.prog Ytioajmhfofmdoaa.cloneK_ren := {
  mixed := by kernel_rfl
  f5 := ⟨Try.f32.name, by decide, Try.func32.trans (congrArg some (by kernel_rfl))⟩
  f7 := Try.func38.trans (congrArg some (by kernel_rfl))
  t4 := Try.underlying4
  a4 := Try.isAgg4
  z4 := Try.sizeOf4
  v4 := Try.zeroValue4
  t20 := Try.underlying20
  a20 := Try.isAgg20
  z20 := Try.sizeOf20
  v20 := Try.zeroValue20
  t23 := Try.underlying59
  a23 := Try.isAgg59
  z23 := Try.sizeOf59
  v23 := Try.zeroValue59 }
end Go.Proofs
namespace Go.Proofs.Ytioajmhfofmdoaa
open Go.RowKit Go.Sort Go.Maps Go.Shelf

theorem MemAt.mv {T : Nat → Prop} {B : Nat} {w w' : World} {bm bp tk n : Nat} {D : DataW Nat} {M : Int → Int → Wd} (h : MemAt T B w bm bp tk n D M) {bm2 bp2 tk2 : Nat}
    (hk : ∀ k, k < w.heap.size → k ≠ bm → w'.heap[k]? = w.heap[k]?) (hc : w'.heap[bm2]? = some (.cells #[.map (some bp2), .pointer (some ⟨tk2, 0, none⟩)] 62 (0, 0))) (ho : w'.ownsMap Try.prog 67 pgR bp2 n D)
    (ht : ∃ c, w'.heap[tk2]? = some (.cells c 5 (0, 0))) (hB : B ≤ tk2) (h1 : bm2 = bm ∨ w.heap.size ≤ bm2) (h2 : bp2 = bp ∨ w.heap.size ≤ bp2) (h12 : bm2 ≠ bp2) :
    MemAt (fun t => T t ∨ t = tk2) B w' bm2 bp2 tk2 n D M := by
  have hbm := h.mine.1
  have hbp := h.mine.2.1
  have hlt := (Array.getElem?_eq_some_iff.1 h.cell).1
  have pg : ∀ (o : Int) (p b : Nat), Pg o p → D.atKey (kyl o p) .nil = .held b → b < w.heap.size := fun o p b hp hb => by
    rcases h.page o p hp with ⟨hn, _⟩ | ⟨b', t, h1, _, h3, _⟩
    · rw [hb] at hn; cases hn
    · rw [hb] at h1; cases h1
      exact (Array.getElem?_eq_some_iff.1 h3).1
  refine ⟨hc, ho, fun o p hp => ?_, h.apart, h.keys, .inr rfl, ?_, ?_⟩
  · rcases h.page o p hp with h1 | ⟨b, t, h1, h2, h3, h4⟩
    · exact .inl h1
    · exact .inr ⟨b, t, h1, .inl h2, (hk b (pg o p b hp h1) (h.mine.2.2.2.2 o p b hp h1).2.1).trans h3, h4⟩
  · rintro t (ht' | rfl)
    · obtain ⟨c, hc⟩ := h.toks t ht'
      have : t ≠ bm := fun e => by
        subst e
        rw [h.cell] at hc
        simp only [Option.some.injEq, Obj.cells.injEq] at hc
        exact absurd hc.2.1 (by decide)
      exact ⟨c, (hk t (Array.getElem?_eq_some_iff.1 hc).1 this).trans hc⟩
    · exact ht
  · refine ⟨by omega, by omega, hB, h12, fun o p b hp hb => ?_⟩
    have hm := h.mine.2.2.2.2 o p b hp hb
    have hl := pg o p b hp hb
    exact ⟨hm.1, by omega, by omega⟩

set_option maxRecDepth 100000 in
theorem cloneL_any {T : Nat → Prop} {B : Nat} {w : World} {bm bp tk n : Nat} {D : DataW Nat} {M : Int → Int → Wd} (h : MemAt T B w bm bp tk n D M) :
    Calls Try.prog 22 #[.pointer (some ⟨bm, 0, none⟩)] w fun e w' => ∃ bm2 bp2 tk1 tk2, e = .returned (.pointer (some ⟨bm2, 0, none⟩)) ∧
      (∀ k, k < w.heap.size → k ≠ bm → w'.heap[k]? = w.heap[k]?) ∧ Below B w w' ∧ MemAt (fun t => T t ∨ t = tk1) B w' bm bp tk1 n D M ∧ MemAt (fun t => T t ∨ t = tk2) B w' bm2 bp2 tk2 n D M ∧
      w.heap.size ≤ bm2 ∧ w.heap.size ≤ bp2 ∧ w.heap.size ≤ tk1 ∧ w.heap.size ≤ tk2 ∧ tk1 ≠ tk2 := by
  obtain ⟨es, ck, hb, hrest⟩ := h.own
  have hlt := (Array.getElem?_eq_some_iff.1 h.cell).1
  have hblt := (Array.getElem?_eq_some_iff.1 hb).1
  have c0 := row_cells h.cell 0
  have c1 := row_cells h.cell 1
  simp at c0 c1
  have o0 : Old bm w := Old.of_cell c0
  have f1 : w.frozen? ⟨bm, 1, none⟩ = false := by simp [World.frozen?, h.cell]
  have hne := h.mine.2.2.2.1
  have hcl := fun w hb => AnyW.maps_Clone cloneK bp es ck w hb
  go_enter Try.func22, Try.ntmps22
  go_wp2_with (go_at_call 32; refine Stop.here ?_)
  refine Stop.on ?_
  have s2 : ∀ k, k < w.heap.size → k ≠ bm → (w.setCell ⟨bm, 1, none⟩ (.pointer (some ⟨w.heap.size, 0, none⟩))).heap[k]? = w.heap[k]? := fun k hk hne => heap_setCell_other _ _ _ _ hne
  have c2 : (w.setCell ⟨bm, 1, none⟩ (.pointer (some ⟨w.heap.size, 0, none⟩))).heap[bm]? = some (.cells #[.map (some bp), .pointer (some ⟨w.heap.size, 0, none⟩)] 62 (0, 0)) := heap_setCell_same _ _ _ _ _ _ h.cell
  have hz2 : (w.setCell ⟨bm, 1, none⟩ (.pointer (some ⟨w.heap.size, 0, none⟩))).heap.size = w.heap.size := by simp
  have hB2 : Below B w (w.setCell ⟨bm, 1, none⟩ (.pointer (some ⟨w.heap.size, 0, none⟩))) := (Below.refl B w).setCell (p := ⟨bm, 1, none⟩) h.mine.1 _
  generalize w.setCell ⟨bm, 1, none⟩ (.pointer (some ⟨w.heap.size, 0, none⟩)) = w2 at *
  have hb2 : (w2.alloc (.cells #[.int .u8 0] 5)).heap[bp]? = some (.map es ck) := by rw [heap_alloc_old _ _ (by omega), s2 bp hblt (fun e => hne e.symm)]; exact hb
  refine (hcl _ hb2).mono ?_
  rintro e w3 ⟨rfl, rfl⟩
  go_wp2
  go_ret
  have hbn : (((w2.alloc (.cells #[.int .u8 0] 5)).alloc (.map es ck)).alloc (.cells #[.int .u8 0] 5)).heap[w.heap.size + 1]? = some (.map es ck) := by
    rw [heap_alloc_old _ _ (by simp; omega), heap_alloc_at' _ _ _ (by simp; omega)]
  have hfin : ∀ k, k < w.heap.size → k ≠ bm → ((((w2.alloc (.cells #[.int .u8 0] 5)).alloc (.map es ck)).alloc (.cells #[.int .u8 0] 5)).alloc (.cells #[.map (some (w.heap.size + 1)), .pointer (some ⟨w.heap.size + 1 + 1, 0, none⟩)] 62)).heap[k]? = w.heap[k]? := fun k hk hne => by
    rw [heap_alloc_old _ _ (by simp; omega), heap_alloc_old _ _ (by simp; omega), heap_alloc_old _ _ (by simp; omega), heap_alloc_old _ _ (by omega), s2 k hk hne]
  have hblo := h.mine.1
  refine ⟨w.heap.size + 1 + 1 + 1, w.heap.size + 1, w.heap.size, w.heap.size + 1 + 1, by simp, hfin, ?_, h.mv hfin ?_ ?_ ?_ (by omega) (.inl rfl) (.inl rfl) hne, h.mv hfin ?_ ?_ ?_ (by omega) (.inr (by omega)) (.inr (by omega)) (by omega), by omega, by omega, by omega, by omega, by omega⟩
  · exact (((hB2.alloc (by omega) _).alloc (by simp; omega) _).alloc (by simp; omega) _).alloc (by simp; omega) _
  · rw [heap_alloc_old _ _ (by simp; omega), heap_alloc_old _ _ (by simp; omega), heap_alloc_old _ _ (by simp; omega), heap_alloc_old _ _ (by omega)]
    exact c2
  · exact ⟨es, ck, (hfin bp hblt (fun e => hne e.symm)).trans hb, hrest⟩
  · exact ⟨_, by rw [heap_alloc_old _ _ (by simp; omega), heap_alloc_old _ _ (by simp; omega), heap_alloc_old _ _ (by simp; omega), heap_alloc_at' _ _ _ hz2.symm]⟩
  · rw [heap_alloc_at' _ _ _ (by simp; omega)]
  · exact ⟨es, ck, by rw [heap_alloc_old _ _ (by simp; omega), hbn], hrest⟩
  · exact ⟨_, by rw [heap_alloc_old _ _ (by simp; omega), heap_alloc_at' _ _ _ (by simp; omega)]⟩

end Go.Proofs.Ytioajmhfofmdoaa
