/- maps.Clone. -/
import Derived.Test.YtbhkcejjehgfcaaDv
import Derived.Shelf.SlMaps.Clone
import Derived.Ground.SlmcProg
namespace Go.Proofs
open Go.Shelf Go.RowKit Go.Lib Go.Maps
def Ytbhkcejjehgfcaa.cloneK_ren : Go.Shelf.Ren := ⟨fun | 5 => 46 | 7 => 63 | n => n, fun | 23 => 69 | 25 => 3 | 3 => 4 | 4 => 4 | 20 => 20 | n => n, fun | n => n⟩
theorem Ytbhkcejjehgfcaa.cloneK : Go.Proofs.SlLaysW.n5 Try.prog Ytbhkcejjehgfcaa.cloneK_ren := {
  mixed := by kernel_rfl
  f5 := ⟨Try.f46.name, by decide, Try.func46.trans (congrArg some (by kernel_rfl))⟩
  f7 := Try.func63.trans (congrArg some (by kernel_rfl))
  t4 := Try.underlying4
  a4 := Try.isAgg4
  z4 := Try.sizeOf4
  v4 := Try.zeroValue4
  t20 := Try.underlying20
  a20 := Try.isAgg20
  z20 := Try.sizeOf20
  v20 := Try.zeroValue20
  t23 := Try.underlying69
  a23 := Try.isAgg69
  z23 := Try.sizeOf69
  v23 := Try.zeroValue69 }
end Go.Proofs
namespace Go.Proofs.Ytbhkcejjehgfcaa
open Go.RowKit Go.Sort
set_option linter.unusedSimpArgs false
set_option linter.unusedVariables false

theorem clone_arm (s : ASt) (tag n : Nat) (pin : Option Nat) (f : Lit → Option Value) (hlk : s.hp.lookup tag = some (.map pin Try.prog 3 n f)) : ∀ L loc w vs, HRel L s.N s.hp loc w → ARs s.N (Dm L loc) loc w [.own tag] vs →
    Calls Try.prog 46 vs.toArray w fun e w' => ∃ u, e = .returned u ∧ Blw w.heap.size w w' ∧ (∀ b, blkOf u = some b → w.heap.size ≤ b) ∧ u.oneCell' = true ∧ OR (s.N + 1) (Dm L (setLoc loc s.N u)) (setLoc loc s.N u) w' u (.map none Try.prog 3 n f) := by
  intro L loc w vs hh hvs
  obtain ⟨_, u, hu, b, D, rfl, hown, hmk, _⟩ := hh.at' tag _ hlk
  obtain ⟨v, rfl⟩ : ∃ v, vs = [v] := List.length_eq_one_iff.1 hvs.1
  have h1 := hvs.2 0 _ v rfl rfl
  cases h1 with
  | own _ _ _ _ hv =>
  obtain rfl := hv _ hu
  obtain ⟨es, clock, hb, F, hs, hD⟩ := hown
  refine (AnyW.maps_Clone cloneK b es clock w hb).mono fun e w' ⟨he, hw⟩ => ?_
  subst hw
  exact ⟨_, he, (Blw.refl _ w).alloc (Nat.le_refl _) _, fun b hb => by cases hb; exact Nat.le_refl _, rfl, w.heap.size, D, rfl, ⟨es, clock, (MapKept.heap_alloc w _).1, F, hs, hD⟩, hmk, fun p e => by cases e⟩
end Go.Proofs.Ytbhkcejjehgfcaa
