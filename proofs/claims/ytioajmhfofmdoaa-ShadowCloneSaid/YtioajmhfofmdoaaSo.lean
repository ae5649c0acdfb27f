/- slices.SortFunc over the keys. -/
import Derived.Test.YtioajmhfofmdoaaCm
import Derived.Shelf.SlSortCmp.WholeK
import Derived.Ground.SlsfProg
namespace Go.Proofs
open Go.Shelf Go.RowKit Go.Lib Go.Sort
def Ytioajmhfofmdoaa.sortK_ren : Go.Shelf.Ren := ⟨fun | 6 => 36 | 15 => 41 | 14 => 40 | 28 => 50 | 29 => 51 | 20 => 42 | 21 => 43 | 22 => 44 | 23 => 45 | 24 => 46 | 25 => 47 | 26 => 48 | 27 => 49 | 46 => 52 | 47 => 53 | 48 => 54 | 49 => 55 | 50 => 56 | 57 => 57 | n => n, fun | 22 => 74 | 24 => 67 | 25 => 78 | 3 => 3 | 39 => 90 | 0 => 0 | 53 => 100 | 55 => 102 | 4 => 4 | 46 => 93 | 45 => 92 | 50 => 97 | 5 => 5 | 9 => 9 | 66 => 103 | 70 => 107 | 76 => 109 | 77 => 110 | n => n, fun | n => n⟩
theorem Ytioajmhfofmdoaa.sortK : Go.Proofs.SlLaysF0.n6 Try.prog Ytioajmhfofmdoaa.sortK_ren := {
  mixed := by kernel_rfl
  f6 := ⟨Try.f36.name, by decide, Try.func36.trans (congrArg some (by kernel_rfl))⟩
  f14 := ⟨Try.f40.name, by decide, Try.func40.trans (congrArg some (by kernel_rfl))⟩
  f15 := Try.func41.trans (congrArg some (by kernel_rfl))
  f20 := ⟨Try.f42.name, by decide, Try.func42.trans (congrArg some (by kernel_rfl))⟩
  f21 := ⟨Try.f43.name, by decide, Try.func43.trans (congrArg some (by kernel_rfl))⟩
  f22 := ⟨Try.f44.name, by decide, Try.func44.trans (congrArg some (by kernel_rfl))⟩
  f23 := ⟨Try.f45.name, by decide, Try.func45.trans (congrArg some (by kernel_rfl))⟩
  f24 := ⟨Try.f46.name, by decide, Try.func46.trans (congrArg some (by kernel_rfl))⟩
  f25 := ⟨Try.f47.name, by decide, Try.func47.trans (congrArg some (by kernel_rfl))⟩
  f26 := ⟨Try.f48.name, by decide, Try.func48.trans (congrArg some (by kernel_rfl))⟩
  f27 := ⟨Try.f49.name, by decide, Try.func49.trans (congrArg some (by kernel_rfl))⟩
  f28 := Try.func50.trans (congrArg some (by kernel_rfl))
  f29 := Try.func51.trans (congrArg some (by kernel_rfl))
  f46 := ⟨Try.f52.name, by decide, Try.func52.trans (congrArg some (by kernel_rfl))⟩
  f47 := Try.func53.trans (congrArg some (by kernel_rfl))
  f48 := Try.func54.trans (congrArg some (by kernel_rfl))
  f49 := ⟨Try.f55.name, by decide, Try.func55.trans (congrArg some (by kernel_rfl))⟩
  f50 := ⟨Try.f56.name, by decide, Try.func56.trans (congrArg some (by kernel_rfl))⟩
  f57 := ⟨Try.f57.name, by decide, Try.func57.trans (congrArg some (by kernel_rfl))⟩
  t0 := Try.underlying0
  a0 := Try.isAgg0
  z0 := Try.sizeOf0
  v0 := Try.zeroValue0
  t3 := Try.underlying3
  a3 := Try.isAgg3
  z3 := Try.sizeOf3
  v3 := Try.zeroValue3
  t4 := Try.underlying4
  a4 := Try.isAgg4
  z4 := Try.sizeOf4
  v4 := Try.zeroValue4
  t5 := Try.underlying5
  a5 := Try.isAgg5
  z5 := Try.sizeOf5
  v5 := Try.zeroValue5
  t9 := Try.underlying9
  a9 := Try.isAgg9
  z9 := Try.sizeOf9
  v9 := Try.zeroValue9
  t22 := Try.underlying74
  a22 := Try.isAgg74
  z22 := Try.sizeOf74
  v22 := Try.zeroValue74
  t25 := Try.underlying78
  a25 := Try.isAgg78
  z25 := Try.sizeOf78
  v25 := Try.zeroValue78
  t39 := Try.underlying90
  a39 := Try.isAgg90
  z39 := Try.sizeOf90
  v39 := Try.zeroValue90
  t45 := Try.underlying92
  a45 := Try.isAgg92
  z45 := Try.sizeOf92
  v45 := Try.zeroValue92
  t46 := Try.underlying93
  a46 := Try.isAgg93
  z46 := Try.sizeOf93
  v46 := Try.zeroValue93
  t50 := Try.underlying97
  a50 := Try.isAgg97
  z50 := Try.sizeOf97
  v50 := Try.zeroValue97
  t53 := Try.underlying100
  a53 := Try.isAgg100
  z53 := Try.sizeOf100
  v53 := Try.zeroValue100
  t55 := Try.underlying102
  a55 := Try.isAgg102
  z55 := Try.sizeOf102
  v55 := Try.zeroValue102
  t66 := Try.underlying103
  a66 := Try.isAgg103
  z66 := Try.sizeOf103
  v66 := Try.zeroValue103
  t70 := Try.underlying107
  a70 := Try.isAgg107
  z70 := Try.sizeOf107
  v70 := Try.zeroValue107
  t76 := Try.underlying109
  a76 := Try.isAgg109
  z76 := Try.sizeOf109
  v76 := Try.zeroValue109
  t77 := Try.underlying110
  a77 := Try.isAgg110
  z77 := Try.sizeOf110
  v77 := Try.zeroValue110 }
end Go.Proofs
namespace Go.Proofs.Ytioajmhfofmdoaa
open Go.Shelf Go.RowKit Go.Lib Go.Sort

def encK (x : Int × Int) : List Value := [.int .i64 x.1, .int .i64 x.2]
theorem cmpK_lt (x y : Int × Int) : ltOf cmpK x y = decide (x.1 < y.1 ∨ x.1 = y.1 ∧ x.2 < y.2) := by
  unfold ltOf cmpK orI cmpI
  by_cases h1 : x.1 < y.1
  · simp [h1]
  · by_cases h2 : y.1 < x.1
    · have : ¬ x.1 = y.1 := by omega
      simp [h1, h2, this]
    · have h3 : x.1 = y.1 := by omega
      by_cases h4 : x.2 < y.2
      · simp [h3, h4]
      · by_cases h5 : y.2 < x.2 <;> simp [h3, h4, h5]
theorem cmpK_swo : SWO (ltOf cmpK) where
  irrefl x := by rw [cmpK_lt]; simp
  trans x y z h1 h2 := by rw [cmpK_lt] at *; simp at *; omega
  ntrans x y z h1 h2 := by rw [cmpK_lt] at *; simp at *; omega
theorem keyAgg (w : World) : (isAgg 67).run Try.prog w = .ok true w := by kernel_rfl
theorem keySz (w : World) : (sizeOf 67).run Try.prog w = .ok 2 w := by kernel_rfl

theorem sortKeys_any (blk cap : Nat) (ks : Array (Int × Int)) (w : World) (hblk : blk < w.heap.size) (hH : HoldsK encK 2 w blk 0 ks) (hsz : ks.size < 4611686018427387904) :
    Calls Try.prog 36 #[.slice (some ⟨blk, 0, none⟩) ks.size cap, .func (.func 29) #[] #[]] w fun e w' => e = .returned (.tuple #[]) ∧
      ∃ ks' : Array (Int × Int), PermIn 0 ks.size ks ks' ∧ SortedIn (ltOf cmpK) 0 ks.size ks' ∧ HoldsK encK 2 w' blk 0 ks' ∧ w.grownBy w' (some blk) ∧ (∀ c t z, w.heap[blk]? = some (.cells c t z) → ∃ c', w'.heap[blk]? = some (.cells c' t z)) := by
  have eg : ∀ args w, (callFunc 29 args).run Try.prog w = .ok (.enter 29 args) w := enters_of Try.func29 (by kernel_rfl) rfl
  have hcon := AnyQ.slices_SortFunc sortK 2 keyAgg keySz encK (fun _ => rfl) (fun x v hv => by simp [encK] at hv; rcases hv with rfl | rfl <;> rfl) cmpK cmpK_swo 29 #[] blk 0 cap ks w eg (fun _ _ _ _ x y => keyCmp_any x y _) hH hblk hsz
  refine Calls.mono hcon ?_
  rintro e w' ⟨rfl, ks', n, os, hp, hs, rfl⟩
  refine ⟨rfl, ks', hp, hs, holdsK_sortWorldK _ _ _ _ _ _ _ _ _ hblk hH hp.1, ⟨rfl, rfl, rfl, ?_, fun k hk hne => ?_⟩, fun c t z hc => ?_⟩
  · simp [sortWorldK, grow, putRowK, putRow, mapBlock]
  · simp only [sortWorldK, grow, putRowK, putRow, mapBlock]
    rw [Array.getElem?_append_left (by simpa using hk), Array.getElem?_modify, if_neg (fun e => hne (by rw [e]))]
    rfl
  · simp only [sortWorldK, grow, putRowK, putRow, mapBlock]
    rw [Array.getElem?_append_left (by simpa using hblk), Array.getElem?_modify, if_pos rfl, show (Go.Sort.ahead w n).heap[blk]? = some (Obj.cells c t z) from hc]
    exact ⟨_, rfl⟩

end Go.Proofs.Ytioajmhfofmdoaa
