/- As wp_region_relL; the frame behind the heads is written out. -/
import Derived.Test.YtbhkcejjehgfcaaRel
namespace Go.Proofs.Ytbhkcejjehgfcaa
open Go.RowKit Go.Sort

def putL : List Tmp → List Value → Act → Act
  | d :: ds, v :: vs, a => putL ds vs (a.put (some d) v)
  | _, _, a => a
def relVals (w : World) : List (World → Value → Prop) → List Value → Prop
  | G :: Gs, v :: vs => G w v ∧ relVals w Gs vs
  | [], [] => True
  | _, _ => False
theorem putL_size : ∀ (ds : List Tmp) (vs : List Value) (a : Act), (putL ds vs a).tmps.size = a.tmps.size
  | [], _, _ => rfl
  | _ :: _, [], _ => rfl
  | d :: ds, v :: vs, a => (putL_size ds vs _).trans (size_put a (some d) v)
theorem putL_defers : ∀ (ds : List Tmp) (vs : List Value) (a : Act), (putL ds vs a).defers = a.defers
  | [], _, _ => rfl
  | _ :: _, [], _ => rfl
  | d :: ds, v :: vs, a => (putL_defers ds vs _).trans (defers_put a (some d) v)
theorem putL_slot (f : Tmp → Value) : ∀ (ds : List Tmp) (a : Act), (∀ d ∈ ds, d < a.tmps.size) → ∀ t, slot (putL ds (ds.map f) a) t = if t ∈ ds then f t else slot a t
  | [], a, _, t => by simp [putL]
  | d :: ds, a, h, t => by
    simp only [List.map_cons, putL]
    rw [putL_slot f ds _ (fun x hx => by rw [size_put]; exact h x (List.mem_cons.2 (.inr hx))), slot_put _ _ _ _ (h d (List.mem_cons.2 (.inl rfl)))]
    by_cases h1 : t ∈ ds
    · simp [h1]
    · by_cases h2 : t = d
      · subst h2; simp [h1]
      · simp [h1, h2]
theorem relVals_of {w : World} {a : Act} (g : Tmp → Value) : ∀ (ds : List Tmp) (Gs : List (World → Value → Prop)), ds.length = Gs.length → ds.Nodup → (∀ t ∈ ds, FofL ds Gs a t w (g t)) → relVals w Gs (ds.map g)
  | [], [], _, _, _ => trivial
  | d :: ds, G :: Gs, hl, hn, h => by
    have h0 := h d (List.mem_cons.2 (.inl rfl))
    simp only [FofL, if_true] at h0
    refine ⟨h0, relVals_of (a := a) g ds Gs (by simpa using hl) (List.nodup_cons.1 hn).2 fun t ht => ?_⟩
    have := h t (List.mem_cons.2 (.inr ht))
    have hne : t ≠ d := fun e => (List.nodup_cons.1 hn).1 (e ▸ ht)
    simpa only [FofL, if_neg hne] using this

theorem wp_region_relP {P : Program} {id : Nat} {Q : Exit → Act → World → Prop} {a : Act} {w : World} {l lt lh : List Oper} (n : Nat) (ds : List Tmp) (Gs : List (World → Value → Prop)) (hm : P.follows .mixedOrders = true) (hB : relB l.toArray n a.tmps.size = true) (hd : dstsOf (l.take n) = ds)
    (hh : l.take n = lh) (ht : l.drop n = lt) (hnd : ds.Nodup) (hlen : ds.length = Gs.length) (hlt : ds.all (fun d => decide (d < a.tmps.size)) = true) (mono : allMono Gs) (each : relAll P l.toArray w.drew a.tmps.size (FofL ds Gs a) lh)
    (tail : ∀ (vs : List Value) (p : Regrown), vs.length = ds.length → relVals (gw w.drew p) Gs vs → wpList P l.toArray Q lt (putL ds vs a) (gw w.drew p)) :
    (Code.region id l.toArray true).wp P Q a w := by
  refine wp_region_relL n ds Gs hm hB hd hh ht mono each fun b p hdf hsz hout hF => ?_
  have hb : b = putL ds (ds.map (slot b)) a := by
    refine act_ext ?_ ?_ fun t => ?_
    · rw [putL_size]; exact hsz
    · rw [putL_defers]; exact hdf
    · rw [putL_slot _ _ _ (fun d hd => by simpa using List.all_eq_true.1 hlt d hd)]
      by_cases h : t ∈ ds
      · rw [if_pos h]
      · rw [if_neg h]; exact hout t h
  rw [hb]
  exact tail _ p (by simp) (relVals_of (slot b) ds Gs hlen hnd fun t _ => hF t)

end Go.Proofs.Ytbhkcejjehgfcaa
