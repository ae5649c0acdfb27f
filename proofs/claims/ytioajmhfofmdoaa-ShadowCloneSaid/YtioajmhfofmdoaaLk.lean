/- Looking a page up. -/
import Derived.Test.YtioajmhfofmdoaaMm
import Derived.Test.YtioajmhfofmdoaaOwn
namespace Go.Proofs.Ytioajmhfofmdoaa
open Go.RowKit Go.Sort Go.Maps

theorem gw_grown (w : World) (p : Regrown) : w.grownBy (gw w p) none := by
  have h := gw_below w p
  exact ⟨h.os, h.tape, h.output, h.size, fun k hk _ => h.block k hk⟩
theorem map_gw {w : World} {bp n : Nat} {D : DataW Nat} (h : w.ownsMap Try.prog 67 pgR bp n D) (p : Regrown) : (gw w p).ownsMap Try.prog 67 pgR bp n D := h.kept (gw_grown w p) (by simp)
theorem look_pg {w : World} {bp n : Nat} {D : DataW Nat} (h : w.ownsMap Try.prog 67 pgR bp n D) {o p : Int} (ho : (Lit.int .i64 o).wf = true) (hp : (Lit.int .i64 p).wf = true) :
    (∃ b, D.atKey (kyl o p) .nil = .held b ∧ ∀ q : Regrown, (Instr.lookup 59 (.map (some bp)) (.agg #[.int .i64 o, .int .i64 p]) false).run Try.prog (gw w q) = .ok (.pointer (some ⟨b, 0, none⟩)) (gw w q)) ∨
    (D.atKey (kyl o p) .nil = .nil ∧ ∀ q : Regrown, (Instr.lookup 59 (.map (some bp)) (.agg #[.int .i64 o, .int .i64 p]) false).run Try.prog (gw w q) = .ok (.pointer none) (gw w q)) := by
  have hz : ∀ w, (zeroValue 65).run Try.prog w = .ok (.pointer none) w := fun w => by kernel_rfl
  have key := fun q => (map_gw h q).lookup keyed mapU (hz _) (zd := .nil) (zp := []) rfl (key_of o p ho hp)
  have h0 := key ⟨w.drawn, #[]⟩
  rw [← gw_self] at h0
  obtain ⟨v, ps, _, hv⟩ := h0
  rcases pgR_inv hv with ⟨b, _, hd⟩ | ⟨_, hd⟩
  · refine .inl ⟨b, hd, fun q => ?_⟩
    obtain ⟨v, ps, hr, hv⟩ := key q
    rcases pgR_inv hv with ⟨b', rfl, hd'⟩ | ⟨_, hd'⟩
    · rw [hd] at hd'
      cases hd'
      exact hr
    · rw [hd] at hd'; cases hd'
  · refine .inr ⟨hd, fun q => ?_⟩
    obtain ⟨v, ps, hr, hv⟩ := key q
    rcases pgR_inv hv with ⟨b', _, hd'⟩ | ⟨rfl, _⟩
    · rw [hd] at hd'; cases hd'
    · exact hr

/-- A page's cells: sixteen words, and whose it is. -/
def pgC (m : Nat → Wd) (tk : Nat) : Array Value := Array.ofFn (n := 209) fun i => if i.val < 208 then (wc (m (i.val / 13)))[i.val % 13]?.getD undef else .pointer (some ⟨tk, 0, none⟩)
/-- A page that can be. -/
def Pg (o : Int) (p : Nat) : Prop := 0 ≤ o ∧ o ≤ 9223372036854775807 ∧ (p : Int) ≤ 9223372036854775807
/-- The given memory in memory: block bm; its map: block bp; its token: block tk; D: the map; M: the words; T: the tokens that its pages may bear. -/
structure MemAt (T : Nat → Prop) (B : Nat) (w : World) (bm bp tk n : Nat) (D : DataW Nat) (M : Int → Int → Wd) : Prop where
  cell : w.heap[bm]? = some (.cells #[.map (some bp), .pointer (some ⟨tk, 0, none⟩)] 62 (0, 0))
  own : w.ownsMap Try.prog 67 pgR bp n D
  page : ∀ (o : Int) (p : Nat), Pg o p → (D.atKey (kyl o p) .nil = .nil ∧ ∀ i : Nat, i < 16 → wv (M o (p * 16 + i : Nat)) = wv wz) ∨
    ∃ b t, D.atKey (kyl o p) .nil = .held b ∧ T t ∧ w.heap[b]? = some (.cells (pgC (fun i => M o (p * 16 + i : Nat)) t) 70 (0, 0)) ∧ ∃ i : Nat, i < 16 ∧ zeroM (M o (p * 16 + i : Nat)) = false
  apart : ∀ (o o' : Int) (p p' b : Nat), Pg o p → Pg o' p' → D.atKey (kyl o p) .nil = .held b → D.atKey (kyl o' p') .nil = .held b → o = o' ∧ p = p'
  keys : ∀ kl, Maps.has D kl = true → ∃ (o : Int) (p : Nat) (b : Nat), Pg o p ∧ kl = kyl o p ∧ D.atKey kl .nil = .held b
  tok : T tk
  toks : ∀ t, T t → ∃ c, w.heap[t]? = some (.cells c 5 (0, 0))
  mine : B ≤ bm ∧ B ≤ bp ∧ B ≤ tk ∧ bm ≠ bp ∧ ∀ (o : Int) (p b : Nat), Pg o p → D.atKey (kyl o p) .nil = .held b → B ≤ b ∧ b ≠ bm ∧ b ≠ bp

end Go.Proofs.Ytioajmhfofmdoaa
