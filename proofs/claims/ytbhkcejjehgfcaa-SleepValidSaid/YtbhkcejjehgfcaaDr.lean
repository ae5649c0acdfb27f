/- The count of draws does not fall. -/
import Derived.Test.YtbhkcejjehgfcaaRp
import Derived.Deep.Draws
namespace Go.Proofs.Ytbhkcejjehgfcaa
open Go.RowKit Go.Sort

theorem viewStore_drawn {p : Program} {w w' : World} {at_ : Addr} {u : TypeId} {k : Addr} {v : Value} {b : Bool} {l : List Addr} (h : w.viewStore p at_ u k v b = .ok (w', l)) : w'.drawn = w.drawn := by
  simp only [World.viewStore, bind, Except.bind] at h
  repeat' (first | (cases h; rfl) | cases h | split at h)
theorem farStore_drawn {p : Program} {w w' : World} {a : Addr} {v : Value} {b : Bool} {l : List Addr} (h : w.farStore p a v b = .ok (w', l)) : w'.drawn = w.drawn := by
  unfold World.farStore at h
  split at h
  · split at h
    · rename_i r hr
      cases h
      exact viewStore_drawn hr
    · cases h
  · cases h
theorem ask_drawn {α : Type} : ∀ (k : Ask α) (w : World), w.drawn ≤ (w.ask k).2.drawn
  | .done a, w => Nat.le_refl _
  | .ask what range k, w => by
    rw [World.ask]
    split
    · exact ask_drawn (k 0) w
    · exact Nat.le_trans (Nat.le_succ w.drawn) (ask_drawn (k _) { w with drawn := w.drawn + 1 })
theorem sys_drawn (w : World) (c : Sys) : w.drawn ≤ (w.sys c).2.drawn := by
  unfold World.sys
  have h := ask_drawn (Kernel.perform c w.os) w
  split
  · exact Nat.le_refl _
  · rename_i r os w' hne e
    rw [e] at h
    exact h
theorem freeze_drawn (w : World) (a : Addr) (n : Nat) : (w.freeze a n).drawn = w.drawn := by
  unfold World.freeze
  split <;> rfl
theorem run_drawn {α : Type} {p : Program} {m : Sem α} : ∀ {w w' : World} {v : α}, m.run p w = .ok v w' → w.drawn ≤ w'.drawn := by
  induction m with
  | pure a => intro w w' v h; cases h; exact Nat.le_refl _
  | load m a k ih =>
    intro w w' v h
    unfold Sem.run at h
    split at h
    · exact ih _ h
    · split at h
      · exact ih _ h
      · cases h
  | store m a x k ih =>
    intro w w' v h
    cases x <;> simp only [Sem.run] at h
    all_goals first
      | (cases h; done)
      | (split at h
         · split at h
           · cases h
           · have t := ih h; exact t
         · split at h
           · rename_i hf
             have t := ih h
             rw [farStore_drawn hf] at t
             exact t
           · cases h)
  | new o k ih => intro w w' v h; unfold Sem.run at h; have t := ih _ h; exact t
  | shape r k ih => intro w w' v h; unfold Sem.run at h; exact ih _ h
  | freeze a n k ih => intro w w' v h; unfold Sem.run at h; have := ih h; rw [freeze_drawn] at this; exact this
  | frozen a k ih => intro w w' v h; unfold Sem.run at h; exact ih _ h
  | getObj r k ih =>
    intro w w' v h
    unfold Sem.run at h
    split at h
    · cases h
    · exact ih _ h
    · cases h
  | setObj r o k ih =>
    intro w w' v h
    unfold Sem.run at h
    split at h
    · cases h
    · have t := ih h; exact t
    · cases h
  | choose q k ih =>
    intro w w' v h
    unfold Sem.run at h
    split at h
    · exact ih _ h
    · exact Nat.le_trans (Nat.le_succ _) (ih _ h)
  | sys c k ih => intro w w' v h; unfold Sem.run at h; exact Nat.le_trans (sys_drawn w c) (ih _ h)
  | program k ih => intro w w' v h; unfold Sem.run at h; exact ih _ h
  | mark a k ih => intro w w' v h; unfold Sem.run at h; exact ih h
  | halt h => intro w w' v h; unfold Sem.run at h; cases h

/-- As Below, and the draws count on. -/
structure Blw (B : Nat) (w w' : World) : Prop extends Below B w w' where
  drawn : w.drawn ≤ w'.drawn
theorem Blw.refl (B : Nat) (w : World) : Blw B w w := ⟨Below.refl _ _, Nat.le_refl _⟩
theorem Blw.trans {B : Nat} {a b c : World} (h : Blw B a b) (k : Blw B b c) : Blw B a c := ⟨h.toBelow.trans k.toBelow, Nat.le_trans h.drawn k.drawn⟩
theorem Blw.mono {B B' : Nat} {w w' : World} (h : Blw B w w') (hB : B' ≤ B) : Blw B' w w' := ⟨h.toBelow.mono hB, h.drawn⟩
theorem Blw.drew {B : Nat} {a w : World} (h : Blw B a w) : Blw B a w.drew := ⟨h.toBelow.drew, Nat.le_succ_of_le h.drawn⟩
theorem Blw.alloc {B : Nat} {a w : World} (h : Blw B a w) (hB : B ≤ w.heap.size) (o : Obj) : Blw B a (w.alloc o) := ⟨h.toBelow.alloc hB o, h.drawn⟩
/-- w some draws on, with blocks laid behind it. -/
def gm (w : World) (p : Regrown) : World := grow (w.drewN p.d) p.os
theorem gm_self (w : World) : w = gm w ⟨0, #[]⟩ := by simp [gm, grow, World.drewN]
theorem gm_two (w : World) (p q : Regrown) : ∃ r : Regrown, gm (gm w p) q = gm w r := ⟨⟨p.d + q.d, p.os ++ q.os⟩, by simp [gm, grow, World.drewN, Nat.add_assoc, Array.append_assoc]⟩
theorem gm_below (w : World) (p : Regrown) : Blw w.heap.size w (gm w p) := ⟨⟨rfl, rfl, rfl, by simp [gm, grow, World.drewN], fun k hk => by simp [gm, grow, World.drewN, Array.getElem?_append, hk]⟩, Nat.le_add_right _ _⟩
theorem gm_of_below {w w' : World} (h : Blw w.heap.size w w') : ∃ p : Regrown, w' = gm w p := by
  obtain ⟨⟨d, os⟩, e⟩ := gw_of_below h.toBelow
  have hd : w'.drawn = d := by rw [e]; rfl
  have h1 := h.drawn
  rw [hd] at h1
  refine ⟨⟨d - w.drawn, os⟩, ?_⟩
  rw [e]
  show ({ w with drawn := d, heap := w.heap ++ os } : World) = { w with drawn := w.drawn + (d - w.drawn), heap := w.heap ++ os }
  congr 1
  omega
end Go.Proofs.Ytbhkcejjehgfcaa
