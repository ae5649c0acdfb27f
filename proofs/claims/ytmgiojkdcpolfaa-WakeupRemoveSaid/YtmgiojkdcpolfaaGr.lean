/- Matching one list within another; a tree in a box that is written again. -/
import Derived.Test.YtmgiojkdcpolfaaAw
namespace Go.Proofs.Ytmgiojkdcpolfaa
open Go.RowKit Go.Sort PT

def lp {α : Type} (f : α → α → Bool) : List α → List α → Nat
  | _, [] => 0
  | [], _ :: _ => 0
  | x :: a, y :: b => if f x y then lp f a b + 1 else lp f (x :: a) b
theorem lp_nil {α : Type} (f : α → α → Bool) (a : List α) : lp f a [] = 0 := by cases a <;> rfl
theorem lp_yes {α : Type} {f : α → α → Bool} {a b : List α} {n j : Nat} {x y : α} (h1 : a[n]? = some x) (h2 : b[j]? = some y) (h : f x y = true) : lp f (a.drop n) (b.drop j) = lp f (a.drop (n + 1)) (b.drop (j + 1)) + 1 := by
  obtain ⟨k1, rfl⟩ := List.getElem?_eq_some_iff.1 h1
  obtain ⟨k2, rfl⟩ := List.getElem?_eq_some_iff.1 h2
  rw [List.drop_eq_getElem_cons k1, List.drop_eq_getElem_cons k2, lp, if_pos h]
theorem lp_no {α : Type} {f : α → α → Bool} {a b : List α} {n j : Nat} {x y : α} (h1 : a[n]? = some x) (h2 : b[j]? = some y) (h : f x y = false) : lp f (a.drop n) (b.drop j) = lp f (a.drop n) (b.drop (j + 1)) := by
  obtain ⟨k1, rfl⟩ := List.getElem?_eq_some_iff.1 h1
  obtain ⟨k2, rfl⟩ := List.getElem?_eq_some_iff.1 h2
  rw [List.drop_eq_getElem_cons k1, List.drop_eq_getElem_cons k2, lp, if_neg (by simp [h])]
theorem lp_sub {α β : Type} {f : α → α → Bool} (v : α → β) (hf : ∀ x y, f x y = true ↔ v x = v y) : ∀ (b a : List α), (a.map v).Sublist (b.map v) → lp f a b = a.length
  | [], a, h => by
    have : a = [] := by simpa using h
    subst this; rfl
  | y :: b, [], h => rfl
  | y :: b, x :: a, h => by
    rw [lp]
    simp only [List.map_cons] at h
    by_cases hxy : f x y = true
    · rw [if_pos hxy, lp_sub v hf b a, List.length_cons]
      rw [(hf x y).1 hxy] at h
      exact List.cons_sublist_cons.1 h
    · rw [if_neg hxy]
      refine lp_sub v hf b (x :: a) ?_
      have hne : v x ≠ v y := fun e => hxy ((hf x y).2 e)
      rcases List.sublist_cons_iff.1 h with h | ⟨r, h1, _⟩
      · exact h
      · exact absurd (List.cons.inj h1).1 hne
theorem More.sub {α : Type} {a b : List α} (h : More a b) : a.Sublist b := by
  obtain ⟨x, y, z, rfl, rfl, _⟩ := h
  rw [List.append_assoc]
  exact List.Sublist.append (List.Sublist.refl x) (List.sublist_append_right y z)
theorem More.len {α : Type} {a b : List α} (h : More a b) : a.length ≤ b.length ∧ b.length ≤ a.length + 1 := by
  obtain ⟨x, y, z, rfl, rfl, h⟩ := h
  simp; omega
theorem sameP_iff (x y : PA) : sameP x y = true ↔ x.l.map vs = y.l.map vs := sameL_iff x.l y.l

theorem row_five {w : World} {b : Nat} {v0 v1 v2 v3 v4 : Value} {t : TypeId} (h : w.heap[b]? = some (.cells #[v0, v1, v2, v3, v4] t (0, 0))) (u0 u1 u2 u3 u4 : Value) :
    (((((w.setCell ⟨b, 0, none⟩ u0).setCell ⟨b, 1, none⟩ u1).setCell ⟨b, 2, none⟩ u2).setCell ⟨b, 3, none⟩ u3).setCell ⟨b, 4, none⟩ u4).heap[b]? = some (.cells #[u0, u1, u2, u3, u4] t (0, 0)) := by
  simp [World.setCell, Array.getElem?_modify, h]
/-- A tree in a box of its own. -/
structure TW (W0 wr : World) (B : Nat) (t : PT) : Prop where
  below : Below W0.heap.size W0 wr
  low : W0.heap.size ≤ B
  row : wr.heap[B]? = some (.cells (trC t).toArray 33 (0, 0))
  lies : Lies W0 wr t
  av : Avoid (some B) t
theorem TW.mono {W0 wr V : World} {B : Nat} {t : PT} (h : TW W0 wr B t) (hb : Below wr.heap.size wr V) : TW W0 V B t :=
  ⟨h.below.trans (hb.mono h.below.size), h.low, (hb.block _ (Array.getElem?_eq_some_iff.1 h.row).1).trans h.row, h.lies.below hb, h.av⟩
theorem TW.gw {W0 wr : World} {B : Nat} {t : PT} (h : TW W0 wr B t) (q : Regrown) : TW W0 (gw wr q) B t := h.mono (gw_below _ _)
theorem TW.lt {W0 wr : World} {B : Nat} {t : PT} (h : TW W0 wr B t) : B < wr.heap.size := (Array.getElem?_eq_some_iff.1 h.row).1
/-- Another box is written. -/
theorem TW.other {W0 wr V : World} {B g : Nat} {t : PT} (h : TW W0 wr B t) (hg : wr.grownBy V (some g)) (hne : B ≠ g) (hlow : W0.heap.size ≤ g) (ha : Avoid (some g) t) : TW W0 V B t :=
  ⟨below_grown h.below hg h.below.size (fun k e => by cases e; exact hlow), h.low, (hg.block _ h.lt (fun e => hne (by cases e; rfl))).trans h.row, h.lies.grown hg ha, h.av⟩
/-- The tree is written into the box g. -/
theorem TW.put {W0 wr : World} {g : Nat} {u : PT} {v0 v1 v2 v3 v4 : Value} (hb : Below W0.heap.size W0 wr) (hlow : W0.heap.size ≤ g) (hrow : wr.heap[g]? = some (.cells #[v0, v1, v2, v3, v4] 33 (0, 0))) (hl : Lies W0 wr u) (ha : Avoid (some g) u) :
    TW W0 (((((wr.setCell ⟨g, 0, none⟩ (.int .i64 u.s.g)).setCell ⟨g, 1, none⟩ (.int .i64 u.s.c)).setCell ⟨g, 2, none⟩ (.slice u.s.ga u.s.gs.length u.s.gc)).setCell ⟨g, 3, none⟩ (.slice u.s.ta u.s.ts.length u.s.tc)).setCell ⟨g, 4, none⟩ (.slice u.ad u.ks.length u.cap)) g u := by
  have hg := grown_five wr g (.int .i64 u.s.g) (.int .i64 u.s.c) (.slice u.s.ga u.s.gs.length u.s.gc) (.slice u.s.ta u.s.ts.length u.s.tc) (.slice u.ad u.ks.length u.cap)
  exact ⟨below_grown hb hg hb.size (fun k e => by cases e; exact hlow), hlow, row_five hrow _ _ _ _ _, hl.grown hg ha, ha⟩
theorem TW.tb {W0 wr : World} {B : Nat} {t : PT} (h : TW W0 wr B t) : TB W0 wr B t := ⟨h.lies, h.row⟩
/-- The cells of a tree's box, and that it may be written. -/
theorem TB.free {W0 W : World} {bt : Nat} {t : PT} (h : TB W0 W bt t) (i : Nat) : World.frozen? W ⟨bt, i, none⟩ = false := by simp [World.frozen?, h.row]

end Go.Proofs.Ytmgiojkdcpolfaa
