/- Pages of the given memory: how many entries its map has. -/
import Derived.Test.YtioajmhfofmdoaaGt
namespace Go.Proofs.Ytioajmhfofmdoaa
open Go.RowKit Go.Sort Go.Maps

theorem pagesL_any {T : Nat → Prop} {B : Nat} {w : World} {bm bp tk n : Nat} {D : DataW Nat} {M : Int → Int → Wd} (h : MemAt T B w bm bp tk n D M) :
    Calls Try.prog 16 #[.pointer (some ⟨bm, 0, none⟩)] w (Gives (.int .i64 (Maps.size D)) w) := by
  have c0 := row_cells h.cell 0
  simp at c0
  have o0 : Old bm w := Old.of_cell c0
  have hown := Lib.hid h.own
  clear h
  go_enter Try.func16, Try.ntmps16
  go_wp2_with (refine wpList_len_own _ rfl _ 59 rfl 67 65 mapU pgR bp n D rfl hown.out ?_)
  go_ret; exact Gives.mk rfl (by repeat (first | exact Below.refl _ _ | refine below_gw ?_ (by simp; try omega) _ | refine Below.alloc ?_ (by simp; try omega) _ | refine Below.setCell ?_ (by simp; try omega) _ | refine Below.drew ?_))

end Go.Proofs.Ytioajmhfofmdoaa
