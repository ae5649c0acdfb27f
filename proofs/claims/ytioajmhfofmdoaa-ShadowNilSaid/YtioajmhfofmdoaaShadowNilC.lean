/- 'a nil memory is empty and ignores changes' -/
import Derived.Test.YtioajmhfofmdoaaNl
import Derived.Test.YtioajmhfofmdoaaOp
namespace Go.Proofs.Ytioajmhfofmdoaa
open Go.RowKit Go.Sort Go.ChangeShapes Go.WideShapes Go.ChangeAt

set_option maxRecDepth 100000 in
theorem open_op {r : Reach} {base : Nat} {W : World} {v : Value} (hval : Value.okWide Try.prog W r base 39 v) : ∃ o f x d, v = opv o f x d := by
  obtain ⟨cs, rfl, hs, hc⟩ := okWide_row (n := 16) (ts := [3, 3, 3, 3, 4, 3, 3, 3, 3, 3, 3, 3, 3, 3, 3, 4]) (by kernel_rfl) (by kernel_rfl) (by kernel_rfl) rfl hval
  have hint : ∀ i, i < 16 → ([3, 3, 3, 3, 4, 3, 3, 3, 3, 3, 3, 3, 3, 3, 3, 4] : List TypeId)[i]? = some 3 → ∃ n, cs[i]? = some (.int .i64 n) := fun i hi hu => by
    have hx : cs[i]? = some cs[i] := Array.getElem?_eq_getElem (by omega)
    obtain ⟨n, e, _⟩ := cell_int (k := .i64) (by kernel_rfl) (hc i _ _ hx hu)
    exact ⟨n, by rw [hx, e]⟩
  have hbool : ∀ i, i < 16 → ([3, 3, 3, 3, 4, 3, 3, 3, 3, 3, 3, 3, 3, 3, 3, 4] : List TypeId)[i]? = some 4 → ∃ n, cs[i]? = some (.bool n) := fun i hi hu => by
    have hx : cs[i]? = some cs[i] := Array.getElem?_eq_getElem (by omega)
    obtain ⟨n, e⟩ := cell_bool (by kernel_rfl) (hc i _ _ hx hu)
    exact ⟨n, by rw [hx, e]⟩
  obtain ⟨o, e0⟩ := hint 0 (by omega) rfl
  obtain ⟨f, e1⟩ := hint 1 (by omega) rfl
  obtain ⟨g, e2⟩ := hint 2 (by omega) rfl
  obtain ⟨n, e3⟩ := hint 3 (by omega) rfl
  obtain ⟨s, e4⟩ := hbool 4 (by omega) rfl
  obtain ⟨rg, e5⟩ := hint 5 (by omega) rfl
  obtain ⟨rn, e6⟩ := hint 6 (by omega) rfl
  obtain ⟨c0, e7⟩ := hint 7 (by omega) rfl
  obtain ⟨c1, e8⟩ := hint 8 (by omega) rfl
  obtain ⟨c2, e9⟩ := hint 9 (by omega) rfl
  obtain ⟨c3, e10⟩ := hint 10 (by omega) rfl
  obtain ⟨c4, e11⟩ := hint 11 (by omega) rfl
  obtain ⟨c5, e12⟩ := hint 12 (by omega) rfl
  obtain ⟨c6, e13⟩ := hint 13 (by omega) rfl
  obtain ⟨c7, e14⟩ := hint 14 (by omega) rfl
  obtain ⟨d, e15⟩ := hbool 15 (by omega) rfl
  refine ⟨o, f, ⟨g, n, s, rg, rn, fun i => match i with | 0 => c0 | 1 => c1 | 2 => c2 | 3 => c3 | 4 => c4 | 5 => c5 | 6 => c6 | _ => c7⟩, d, congrArg Value.agg ?_⟩
  apply Array.ext_getElem?
  intro i
  by_cases hi : i < 16
  · match i, hi with
    | 0, _ => exact e0
    | 1, _ => exact e1
    | 2, _ => exact e2
    | 3, _ => exact e3
    | 4, _ => exact e4
    | 5, _ => exact e5
    | 6, _ => exact e6
    | 7, _ => exact e7
    | 8, _ => exact e8
    | 9, _ => exact e9
    | 10, _ => exact e10
    | 11, _ => exact e11
    | 12, _ => exact e12
    | 13, _ => exact e13
    | 14, _ => exact e14
    | 15, _ => exact e15
    | n + 16, h => exact absurd h (by omega)
  · rw [Array.getElem?_eq_none (by omega), Array.getElem?_eq_none (by simp; omega)]

set_option maxRecDepth 100000 in
theorem ShadowNil_lifted (os : Os) (started : os.Started) (H : Type) (enc : TypeId × Value → H) :
    ReturnsInHanded {} Try.checked os 8 .any (Rows.shadowNilSpec.pre6 enc Try.prog Try.f8 Rows.shadowNilRow.domain false) (Rows.shadowNilSpec.post enc Try.prog Try.f8 false true false false) := by
  refine law_lifted (C := Try.checked) (B := 4) Try.own started (by kernel_rfl) Try.func8
    (ChangeSpec.witness6 (enc := enc) (C := Try.checked) false ⟨#[], #[.agg #[.int .i64 0, .int .i64 0, .int .i64 0, .int .i64 0, .bool false, .int .i64 0, .int .i64 0, .int .i64 0, .int .i64 0, .int .i64 0, .int .i64 0, .int .i64 0, .int .i64 0, .int .i64 0, .int .i64 0, .bool false]], []⟩ 8 (by kernel_rfl) (by kernel_rfl) (by kernel_rfl) (by kernel_rfl)) Try.laidOut (by kernel_rfl) (by kernel_rfl) (by kernel_rfl) rfl
    (fun ds h => by match ds, h with | [_], _ => rfl) ?_
  intro W base args ds p hval0 hA0 hlt hnf hw hsh
  have hval : ∀ (j : Nat) t v, Try.f8.params[j]? = some t → args[j]? = some v → Value.okWide Try.prog W .any base t v := hval0
  have hA : DataW.TrodAll enc Try.prog W 0 (fun _ => true) true Try.f8.params.toList args.toList ds p := hA0
  clear hval0 hA0
  rw [Try.params8] at hA hval
  obtain ⟨v0, d0, rfl, rfl, h0⟩ := trodAll_one hA
  obtain ⟨o, f, x, d, rfl⟩ := open_op (hval 0 39 _ rfl rfl)
  exact shadowNil_any o f x d W

theorem ShadowNil_holds : Rows.ShadowNilSaid :=
  OpenClaim.holds_of_wide 8 Try.f8 rfl rfl rfl rfl rfl rfl rfl ⟨rfl, rfl, rfl, rfl, rfl⟩ rfl rfl rfl rfl rfl (by kernel_rfl) Try.func8 (by kernel_rfl)
    (of_decide_eq_true (by kernel_rfl)) (by unfold Func.isWrapper; first | (rw [if_pos (by decide +kernel)]; kernel_rfl) | (rw [if_neg (by decide +kernel)]; exact ⟨rfl, rfl⟩))
    (fun os started H enc _ => ShadowNil_lifted os started H enc)

end Go.Proofs.Ytioajmhfofmdoaa
