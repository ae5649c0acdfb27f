/- 'a memory and its clones do not affect each other' -/
import Derived.Test.YtioajmhfofmdoaaCw
import Derived.Test.YtioajmhfofmdoaaOp
namespace Go.Proofs.Ytioajmhfofmdoaa
open Go.RowKit Go.Sort Go.ChangeShapes Go.WideShapes Go.ChangeAt

set_option maxRecDepth 100000 in
theorem ops_len {r : Reach} {base : Nat} {H : Type} {enc : TypeId × Value → H} {W : World} {v : Value} {d : DataW H} {p : List MemPlace} (hval : Value.okWide Try.prog W r base 22 v)
    (h : DataW.Trod enc Try.prog W 0 (fun _ => true) true 22 v d p) {L : List OpT} (hL : OpsAt W.heap.size W v L) {ts : List TypeId} {ds : List (DataW H)} (hw : (DataW.weightsEach Try.prog ts ds).all (· ≤ reachBytes) = true) {j : Nat} (ht : ts[j]? = some 22) (hd : ds[j]? = some d) :
    L.length ≤ 2000000000000 := by
  obtain ⟨fuel, h⟩ := h
  obtain ⟨ad, cap', rfl, _⟩ := hL
  rcases DataW.trod_slice (e := 39) (by kernel_rfl) h with ⟨h0, _⟩ | ⟨a, len, cap, elems, rest, n, _, hcs, hx, _, _, _, hlen, _⟩
  · have := slice_of_cells (e := 39) (by kernel_rfl) hval h0
    simp only [Value.slice.injEq] at this
    omega
  · have hv := slice_of_cells (e := 39) (by kernel_rfl) hval hcs
    simp only [Value.slice.injEq] at hv
    have hd2 : d = .slice (elems.map (·.1)) (rest.map (·.1)) := congrArg Prod.fst hx
    rw [hd2] at hd
    have hz := sized_slice hw ht hd (by kernel_rfl : Try.prog.underlying 22 = some (.slice 39))
    have hbo : Try.prog.bytesOf 39 = 128 := by kernel_rfl
    rw [hbo] at hz
    simp only [List.length_map, reachBytes] at hz
    omega

set_option maxRecDepth 100000 in
theorem ShadowClone_lifted (os : Os) (started : os.Started) (H : Type) (enc : TypeId × Value → H) :
    ReturnsInHanded {} Try.checked os 7 .any (Rows.shadowCloneSpec.pre6 enc Try.prog Try.f7 Rows.shadowCloneRow.domain false) (Rows.shadowCloneSpec.post enc Try.prog Try.f7 false true false false) := by
  refine law_lifted (C := Try.checked) (B := 4) Try.own started (by kernel_rfl) Try.func7
    (ChangeSpec.witness6 (enc := enc) (C := Try.checked) false ⟨#[], #[.slice none 0 0, .slice none 0 0, .slice none 0 0], []⟩ 8 (by kernel_rfl) (by kernel_rfl) (by kernel_rfl) (by kernel_rfl)) Try.laidOut (by kernel_rfl) (by kernel_rfl) (by kernel_rfl) rfl
    (fun ds h => by match ds, h with | [_, _, _], _ => rfl) ?_
  intro W base args ds p hval0 hA0 hlt hnf hw hsh
  have hval : ∀ (j : Nat) t v, Try.f7.params[j]? = some t → args[j]? = some v → Value.okWide Try.prog W .any base t v := hval0
  have hA : DataW.TrodAll enc Try.prog W 0 (fun _ => true) true Try.f7.params.toList args.toList ds p := hA0
  clear hval0 hA0
  rw [Try.params7] at hA hval
  obtain ⟨v0, v1, v2, d0, d1, d2, p0, p1, p2, rfl, rfl, rfl, h0, h1, h2⟩ := trodAll_three hA
  obtain ⟨L, hL, hb⟩ := open_ops (hval 0 22 _ rfl rfl) h0
  obtain ⟨A, hA, hba⟩ := open_ops (hval 1 22 _ rfl rfl) h1
  obtain ⟨C, hC, hbc⟩ := open_ops (hval 2 22 _ rfl rfl) h2
  exact clones_any _ _ _ L A C W hL hb hA hba hC hbc (ops_len (hval 0 22 _ rfl rfl) h0 hL hw (j := 0) rfl rfl) (ops_len (hval 1 22 _ rfl rfl) h1 hA hw (j := 1) rfl rfl) (ops_len (hval 2 22 _ rfl rfl) h2 hC hw (j := 2) rfl rfl)

theorem ShadowClone_holds : Rows.ShadowCloneSaid :=
  OpenClaim.holds_of_wide 7 Try.f7 rfl rfl rfl rfl rfl rfl rfl ⟨rfl, rfl, rfl, rfl, rfl⟩ rfl rfl rfl rfl rfl (by kernel_rfl) Try.func7 (by kernel_rfl)
    (of_decide_eq_true (by kernel_rfl)) (by unfold Func.isWrapper; first | (rw [if_pos (by decide +kernel)]; kernel_rfl) | (rw [if_neg (by decide +kernel)]; exact ⟨rfl, rfl⟩))
    (fun os started H enc _ => ShadowClone_lifted os started H enc)

end Go.Proofs.Ytioajmhfofmdoaa
