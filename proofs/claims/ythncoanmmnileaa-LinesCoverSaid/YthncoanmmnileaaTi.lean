/- Line tables: a copy of a table. -/
import Derived.Test.YthncoanmmnileaaTh
import Derived.Test.YthncoanmmnileaaRel
namespace Go.Proofs.Ythncoanmmnileaa
open Go.RowKit Go.Sort

theorem append_empty (w : World) (g : Nat) (ad : Option Addr) (m c : Nat) (f : Nat → Int) (h : RowAt w ad m f) (hm : m ≤ 4000) :
    ∃ v' w', (Builtin.append_ #[23, 23] 23 #[.slice (some ⟨g, 0, none⟩) 0 0, .slice ad m c]).run Try.prog w = .ok v' w' ∧ (∃ q, w' = gw w q) ∧ ∃ ad' cap', v' = .slice ad' m cap' ∧ RowAt w' ad' m f ∧ m ≤ cap' ∧ (0 < m → ∃ b, ad' = some ⟨b, 0, none⟩ ∧ w.heap.size ≤ b) := by
  have hu : Try.prog.underlying 23 = some (.slice 3) := by kernel_rfl
  obtain ⟨i, z, hi, hz, hs, hby, hzs⟩ : ∃ (i : TypeInfo) (z : Value), Try.prog.info? 3 = some i ∧ i.zero = some z ∧ i.size = 1 ∧ i.bytes = 8 ∧ z.cells.size = 1 := ⟨_, _, rfl, rfl, rfl, rfl, rfl⟩
  by_cases h0 : m = 0
  · subst h0
    refine ⟨.slice (some ⟨g, 0, none⟩) 0 0, w, ?_, ⟨_, gw_self w⟩, _, _, rfl, fun h => by omega, Nat.le_refl _, fun h => by omega⟩
    cases ad <;> simp [Builtin.append_, run_underlying hu, sizeOf, typeInfo, hi, Builtin.lenOf, Builtin.firstCells, loadCells, loadCellsFrom, storeCells]
  · obtain ⟨b, off, rfl, ho, hcs⟩ := h (by omega)
    have hr := run_append_grow (P := Try.prog) w 23 23 3 i z hu hi hz ⟨g, 0, none⟩ 0 0 [] (by simp) (fun j u hu => by simp at hu) ⟨b, off, none⟩ m c ((List.range m).map fun j => .int .i64 (f j)) (by simp [hs]) (fun j u hu => by
      rw [List.getElem?_map] at hu
      cases hj : (List.range m)[j]? with
      | none => simp [hj] at hu
      | some j' =>
        obtain ⟨hlt, e⟩ := List.getElem?_eq_some_iff.1 hj
        simp at hlt e
        subst e
        simp [hj] at hu
        rw [Go.WideShapes.add_plain, hcs j hlt, hu]) (by omega) (by omega) (growslice_fits (by omega) (by rw [hby]; omega))
    have hge := grownCap_ge w m 0 3
    simp only [Nat.zero_add] at hr
    refine ⟨_, _, hr, gw_of_below ((Below.drew (Below.refl _ w)).alloc (by simp) _), some ⟨w.heap.size, 0, none⟩, _, rfl, fun _ => ⟨w.heap.size, 0, rfl, by simp [Old], fun k hk => ?_⟩, hge, fun _ => ⟨_, rfl, Nat.le_refl _⟩⟩
    rw [row_cells (heap_alloc_at' _ _ _ (by simp)) (0 + k), Nat.zero_add, Array.empty_append, Array.getElem?_append_left (by simpa using hk)]
    simp [hk]

end Go.Proofs.Ythncoanmmnileaa
