/- slices.SortFunc over the keys. -/
import Derived.Test.YtioajmhfofmdoaaCm
import Derived.Shelf.SlSortCmp.WholeK
import Derived.Shelf.Lay
import Derived.Ground.SlsfProg
namespace Go.Proofs
open Go.Shelf Go.RowKit Go.Lib Go.Sort
shelf_lay_g SlLaysF0.n6 Slsf 6 at Try 36 as Ytioajmhfofmdoaa.sortK
end Go.Proofs
namespace Go.Proofs.Ytioajmhfofmdoaa
open Go.Shelf Go.RowKit Go.Lib Go.Sort

def encK (x : Int × Int) : List Value := [.int .i64 x.1, .int .i64 x.2]
theorem cmpK_lt (x y : Int × Int) : ltOf cmpK x y = decide (x.1 < y.1 ∨ x.1 = y.1 ∧ x.2 < y.2) := by
  unfold ltOf cmpK orI cmpI
  by_cases h1 : x.1 < y.1
  · simp [h1]
  · by_cases h2 : y.1 < x.1
    · have : ¬ x.1 = y.1 := by omega
      simp [h1, h2, this]
    · have h3 : x.1 = y.1 := by omega
      by_cases h4 : x.2 < y.2
      · simp [h3, h4]
      · by_cases h5 : y.2 < x.2 <;> simp [h3, h4, h5]
theorem cmpK_swo : SWO (ltOf cmpK) where
  irrefl x := by rw [cmpK_lt]; simp
  trans x y z h1 h2 := by rw [cmpK_lt] at *; simp at *; omega
  ntrans x y z h1 h2 := by rw [cmpK_lt] at *; simp at *; omega
theorem keyAgg (w : World) : (isAgg 67).run Try.prog w = .ok true w := by kernel_rfl
theorem keySz (w : World) : (sizeOf 67).run Try.prog w = .ok 2 w := by kernel_rfl

theorem sortKeys_any (blk cap : Nat) (ks : Array (Int × Int)) (w : World) (hblk : blk < w.heap.size) (hH : HoldsK encK 2 w blk 0 ks) (hsz : ks.size < 4611686018427387904) :
    Calls Try.prog 36 #[.slice (some ⟨blk, 0, none⟩) ks.size cap, .func (.func 29) #[] #[]] w fun e w' => e = .returned (.tuple #[]) ∧
      ∃ ks' : Array (Int × Int), PermIn 0 ks.size ks ks' ∧ SortedIn (ltOf cmpK) 0 ks.size ks' ∧ HoldsK encK 2 w' blk 0 ks' ∧ w.grownBy w' (some blk) ∧ (∀ c t z, w.heap[blk]? = some (.cells c t z) → ∃ c', w'.heap[blk]? = some (.cells c' t z)) := by
  have eg : ∀ args w, (callFunc 29 args).run Try.prog w = .ok (.enter 29 args) w := enters_of Try.func29 (by kernel_rfl) rfl
  have hcon := AnyQ.slices_SortFunc sortK 2 keyAgg keySz encK (fun _ => rfl) (fun x v hv => by simp [encK] at hv; rcases hv with rfl | rfl <;> rfl) cmpK cmpK_swo 29 #[] blk 0 cap ks w eg (fun _ _ _ _ x y => keyCmp_any x y _) hH hblk hsz
  refine Calls.mono hcon ?_
  rintro e w' ⟨rfl, ks', n, os, hp, hs, rfl⟩
  refine ⟨rfl, ks', hp, hs, holdsK_sortWorldK _ _ _ _ _ _ _ _ _ hblk hH hp.1, ⟨rfl, rfl, rfl, ?_, fun k hk hne => ?_⟩, fun c t z hc => ?_⟩
  · simp [sortWorldK, grow, putRowK, putRow, mapBlock]
  · simp only [sortWorldK, grow, putRowK, putRow, mapBlock]
    rw [Array.getElem?_append_left (by simpa using hk), Array.getElem?_modify, if_neg (fun e => hne (by rw [e]))]
    rfl
  · simp only [sortWorldK, grow, putRowK, putRow, mapBlock]
    rw [Array.getElem?_append_left (by simpa using hblk), Array.getElem?_modify, if_pos rfl, show (Go.Sort.ahead w n).heap[blk]? = some (Obj.cells c t z) from hc]
    exact ⟨_, rfl⟩

end Go.Proofs.Ytioajmhfofmdoaa
