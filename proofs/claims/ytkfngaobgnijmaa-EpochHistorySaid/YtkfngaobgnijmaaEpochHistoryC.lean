/- 'A set built by Add from the reads of a history is covered by a goroutine's clock if and only if every one of these reads is: for every history of at most 60 steps; a longer one is not judged.' -/
import Derived.Test.YtkfngaobgnijmaaEo
import Derived.Test.YtkfngaobgnijmaaEu
namespace Go.Proofs.Ytkfngaobgnijmaa
open Go.RowKit Go.Sort Go.ChangeShapes Go.WideShapes Go.ChangeAt

theorem slice_of_cells {P : Program} {w : World} {r : Reach} {base : Nat} {t e : TypeId} {v x : Value} (hu : P.underlying t = some (.slice e)) (hok : Value.okWide P w r base t v) (h : v.cells.toList = [x]) : v = x := by
  unfold Value.okWide at hok
  rw [hu] at hok
  cases v <;> simp [Value.cells] at h <;> first | exact h | (simp [Cell.okWide, Cell.ok, hu] at hok)
theorem wf_u8' {n : Int} (h : (Lit.int .u8 n).wf = true) : 0 ≤ n ∧ n ≤ 255 := by
  simp [Lit.wf, IntKind.min, IntKind.max, IntKind.bits, IntKind.signed] at h
  omega
theorem op_of_cells {H : Type} {enc : TypeId × Value → H} {W : World} {spare : Nat → Bool} {held : Bool} {a : Addr} {n : Nat} {y : DataW H × List MemPlace}
    (h : (W.cells? 0 a 2).bind (DataW.trod enc Try.prog W 0 spare held n 57) = some y) :
    ∃ g f : Nat, W.cell? a = some (.int .u8 g) ∧ W.cell? (a.add 1) = some (.int .u8 f) ∧ g < 256 ∧ f < 256 := by
  rw [Option.bind_eq_some_iff] at h
  obtain ⟨cs, hcs, hy⟩ := h
  obtain ⟨_, hlen, hat⟩ := World.cells?_some hcs
  obtain ⟨xs, m, _, _, _, hx, hf⟩ := DataW.trod_struct (P := Try.prog) (t := 57) rfl hy
  match cs, hlen with
  | [c0, c1], _ =>
    have hx' : xs.length = 2 := hx
    have f0 := hf 0 _ rfl
    have f1 := hf 1 _ rfl
    rw [List.getElem?_eq_getElem (by omega)] at f0 f1
    have e1 : Try.prog.cellsOf 5 = 1 := by kernel_rfl
    obtain ⟨g, hg, _, wg⟩ := DataW.trod_int (by kernel_rfl : Try.prog.underlying 5 = some (.int .u8)) f0
    obtain ⟨f, hff, _, wf⟩ := DataW.trod_int (by kernel_rfl : Try.prog.underlying 5 = some (.int .u8)) f1
    simp [e1] at hg hff
    subst hg hff
    have bg := wf_u8' wg
    have bf := wf_u8' wf
    have h0 := hat 0 (by omega)
    have h1 := hat 1 (by omega)
    simp [Addr.add] at h0
    simp at h1
    refine ⟨g.toNat, f.toNat, ?_, ?_, by omega, by omega⟩
    · rw [h0, Int.toNat_of_nonneg bg.1]
    · rw [h1, Int.toNat_of_nonneg bf.1]
theorem open_ops {r : Reach} {base : Nat} {H : Type} {enc : TypeId × Value → H} {W : World} {v : Value} {d : DataW H} {p : List MemPlace} (hval : Value.okWide Try.prog W r base 39 v)
    (h : DataW.Trod enc Try.prog W 0 (fun _ => true) true 39 v d p) : ∃ len l, OpsAt W v len l := by
  obtain ⟨fuel, h⟩ := h
  have hc : Try.prog.cellsOf 57 = 2 := by kernel_rfl
  rcases DataW.trod_slice (e := 57) (by kernel_rfl) h with ⟨h0, _⟩ | ⟨a, len, cap, elems, rest, n, _, hcs, _, _, _, _, hlen, hel, _⟩
  · refine ⟨0, fun _ => (0, 0), none, 0, slice_of_cells (e := 57) (by kernel_rfl) hval h0, fun h => absurd h (by omega)⟩
  · have hv := slice_of_cells (e := 57) (by kernel_rfl) hval hcs
    rw [hc] at hel
    have hall : ∀ i, i < len → ∃ g f : Nat, W.cell? (a.add (i * 2)) = some (.int .u8 g) ∧ W.cell? ((a.add (i * 2)).add 1) = some (.int .u8 f) ∧ g < 256 ∧ f < 256 := fun i hi => by
      have hE := hel i hi
      rw [List.getElem?_eq_getElem (by omega)] at hE
      exact op_of_cells hE
    by_cases h0 : 0 < len
    · obtain ⟨g0, f0, hc0, _⟩ := hall 0 h0
      obtain ⟨b, off, spot⟩ := a
      have hspot : spot = none := by
        have := World.cell?_spot hc0
        simpa [Addr.add] using this
      subst hspot
      have hall2 : ∀ i, i < len → ∃ gf : Nat × Nat, W.cell? ⟨b, off + i * 2, none⟩ = some (.int .u8 gf.1) ∧ W.cell? ⟨b, off + i * 2 + 1, none⟩ = some (.int .u8 gf.2) ∧ gf.1 < 256 ∧ gf.2 < 256 := fun i hi => by
        obtain ⟨g, f, h1, h2, h3⟩ := hall i hi
        rw [Go.WideShapes.add_plain] at h1 h2
        rw [Go.WideShapes.add_plain] at h2
        exact ⟨(g, f), h1, h2, h3⟩
      refine ⟨len, fun i => if hi : i < len then (hall2 i hi).choose else (0, 0), some ⟨b, off, none⟩, cap, hv, fun h0 => ⟨b, off, rfl, Old.of_cell hc0, fun i hi => ?_⟩⟩
      have hs := (hall2 i hi).choose_spec
      simp only [dif_pos hi]
      exact hs
    · exact ⟨len, fun _ => (0, 0), some a, cap, hv, fun h => absurd h h0⟩

set_option maxRecDepth 100000 in
theorem EpochHistory_lifted (os : Os) (started : os.Started) (H : Type) (enc : TypeId × Value → H) :
    ReturnsInHanded {} Try.checked os 7 .any (Rows.epochHistorySpec.pre6 enc Try.prog Try.f7 Rows.epochHistoryRow.domain false) (Rows.epochHistorySpec.post enc Try.prog Try.f7 false true false false) := by
  refine law_lifted (C := Try.checked) (B := 4) Try.own started (by kernel_rfl) Try.func7
    (ChangeSpec.witness6 (enc := enc) (C := Try.checked) false ⟨#[], #[.slice none 0 0], []⟩ 8 (by kernel_rfl) (by kernel_rfl) (by kernel_rfl) (by kernel_rfl)) Try.laidOut (by kernel_rfl) (by kernel_rfl) (by kernel_rfl) rfl
    (fun ds h => by match ds, h with | [_], _ => rfl) ?_
  intro W base args ds p hval0 hA0 hlt hnf hw hsh
  have hval : ∀ (j : Nat) t v, Try.f7.params[j]? = some t → args[j]? = some v → Value.okWide Try.prog W .any base t v := hval0
  have hA : DataW.TrodAll enc Try.prog W 0 (fun _ => true) true Try.f7.params.toList args.toList ds p := hA0
  clear hval0 hA0
  rw [Try.params7] at hA hval
  obtain ⟨v0, d0, rfl, rfl, h0⟩ := trodAll_one hA
  obtain ⟨len, l, hl⟩ := open_ops (hval 0 39 _ rfl rfl) h0
  exact law_hist _ len l W hl

theorem EpochHistory_holds : Rows.EpochHistorySaid :=
  OpenClaim.holds_of_wide 7 Try.f7 rfl rfl rfl rfl rfl rfl rfl ⟨rfl, rfl, rfl, rfl, rfl⟩ rfl rfl rfl rfl rfl (by kernel_rfl) Try.func7 (by kernel_rfl)
    (of_decide_eq_true (by kernel_rfl)) (by unfold Func.isWrapper; first | (rw [if_pos (by decide +kernel)]; kernel_rfl) | (rw [if_neg (by decide +kernel)]; exact ⟨rfl, rfl⟩))
    (fun os started H enc _ => EpochHistory_lifted os started H enc)

end Go.Proofs.Ytkfngaobgnijmaa
