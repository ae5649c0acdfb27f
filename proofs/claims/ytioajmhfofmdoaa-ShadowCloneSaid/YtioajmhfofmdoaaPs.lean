/- A word stored into a page; keys apart. -/
import Derived.Test.YtioajmhfofmdoaaGt
import Derived.Test.YtioajmhfofmdoaaPz
import Derived.Maps.Views
namespace Go.Proofs.Ytioajmhfofmdoaa
open Go.RowKit Go.Sort Go.Maps

def updP (m : Nat → Wd) (i : Nat) (x : Wd) : Nat → Wd := fun j => if j = i then x else m j
theorem pgC_size (m : Nat → Wd) (tk : Nat) : (pgC m tk).size = 209 := by simp [pgC]
theorem pgC_last (m : Nat → Wd) (tk : Nat) : (pgC m tk)[208]? = some (.pointer (some ⟨tk, 0, none⟩)) := by
  unfold pgC
  rw [Array.getElem?_ofFn, dif_pos (by omega)]
  rfl
theorem pgC_splice (m : Nat → Wd) (tk : Nat) {i : Nat} (hi : i < 16) (x : Wd) : splice (pgC m tk) (i * 13) (wc x) = pgC (updP m i x) tk := by
  have hx : (wc x).size = 13 := rfl
  apply Array.ext_getElem?
  intro j
  rw [splice_get _ _ _ _ (by rw [pgC_size, hx]; omega)]
  by_cases hj : j < 208
  · obtain ⟨a, b, ha, hb, rfl⟩ : ∃ a b, a < 16 ∧ b < 13 ∧ j = a * 13 + b := ⟨j / 13, j % 13, by omega, by omega, by omega⟩
    rw [pgC_at _ _ ha hb, pgC_at _ _ ha hb]
    by_cases e : a = i
    · subst e
      rw [if_pos (by rw [hx]; omega)]
      simp [updP, show a * 13 + b - a * 13 = b by omega]
    · rw [if_neg (by rw [hx]; omega)]
      simp [updP, e]
  · by_cases e : j = 208
    · subst e
      rw [if_neg (by rw [hx]; omega), pgC_last, pgC_last]
    · rw [if_neg (by rw [hx]; omega), Array.getElem?_eq_none (by rw [pgC_size]; omega), Array.getElem?_eq_none (by rw [pgC_size]; omega)]
theorem kyl_inj {o p o' p' : Int} (h1 : (Lit.int .i64 o).wf = true) (h2 : (Lit.int .i64 p).wf = true) (h3 : (Lit.int .i64 o').wf = true) (h4 : (Lit.int .i64 p').wf = true) (h : kyl o p = kyl o' p') : o = o' ∧ p = p' := by
  have a := key_of o p h1 h2
  have b := key_of o' p' h3 h4
  rw [h] at a
  have := keyed.inj a b
  simpa using this

end Go.Proofs.Ytioajmhfofmdoaa
