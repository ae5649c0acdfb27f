/- A new memory. -/
import Derived.Test.YtioajmhfofmdoaaGt
namespace Go.Proofs.Ytioajmhfofmdoaa
open Go.RowKit Go.Sort Go.Maps

set_option maxRecDepth 100000 in
theorem newL_any (w : World) : Calls Try.prog 10 #[] w fun e w' => ∃ bm bp tk, e = .returned (.pointer (some ⟨bm, 0, none⟩)) ∧ Below w.heap.size w w' ∧ MemAt (· = tk) w.heap.size w' bm bp tk 0 (.map []) (fun _ _ => wz) := by
  have hmm := @run_makeMap Try.prog
  go_enter Try.func10, Try.ntmps10
  go_wp2
  go_ret
  have hat : ∀ kl : Lit, (DataW.map ([] : List (Lit × DataW Nat))).atKey kl .nil = .nil := fun _ => rfl
  refine ⟨w.heap.size + 1 + 1, w.heap.size, w.heap.size + 1, rfl, (by repeat (first | exact Below.refl _ _ | refine below_gw ?_ (by simp; try omega) _ | refine Below.alloc ?_ (by simp; try omega) _ | refine Below.setCell ?_ (by simp; try omega) _ | refine Below.drew ?_)), ?_, ?_, ?_, ?_, fun kl h => (by cases h), rfl, ?_, ?_⟩
  · rw [heap_alloc_at' _ _ _ (by simp)]
  · exact ((World.ownsMap_made w Try.prog 67 pgR).alloc _).alloc _
  · exact fun o p _ => .inl ⟨hat _, fun i _ => rfl⟩
  · intro o o' p p' b _ _ h; rw [hat] at h; cases h
  · rintro t rfl; exact ⟨_, by rw [heap_alloc_old _ _ (by simp), heap_alloc_at' _ _ _ (by simp)]⟩
  · refine ⟨by omega, by omega, by omega, by omega, fun o p b _ h => ?_⟩
    rw [hat] at h; cases h

end Go.Proofs.Ytioajmhfofmdoaa
