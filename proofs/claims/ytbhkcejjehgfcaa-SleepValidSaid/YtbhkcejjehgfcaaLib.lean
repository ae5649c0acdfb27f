/- Worlds that have grown: what a call that only makes memory of its own leaves, as one term that the walk sees through. -/
import Derived.Test.YtbhkcejjehgfcaaRows
import Derived.WalkKit
import Derived.WalkSpells
import Derived.WalkLawsBesides
import Derived.Lib.Hide
import Derived.Lib.QuietBelow
import Derived.BigQuiet
namespace Go.Proofs.Ytbhkcejjehgfcaa
open Go.RowKit Go.Sort

/-- w with another count of draws and with blocks laid behind it. -/
def gw (w : World) (p : Regrown) : World := grow (redrawn w p.d) p.os

theorem gw_below (w : World) (p : Regrown) : Below w.heap.size w (gw w p) := below_regrown w p.d p.os
theorem gw_of_below {w w' : World} (h : Below w.heap.size w w') : ∃ p : Regrown, w' = gw w p := regrown_of_below h
theorem below_gw {B : Nat} {w W : World} (h : Below B w W) (hB : B ≤ W.heap.size) (p : Regrown) : Below B w (gw W p) := h.trans ((gw_below W p).mono hB)

/-- Block b is there. -/
def Old (b : Nat) (w : World) : Prop := b < w.heap.size
theorem Old.lt {b : Nat} {w : World} (h : Old b w) : b < w.heap.size := h
theorem Old.of_cell {w : World} {a : Addr} {v : Value} (h : w.cell? a = some v) : Old a.block w := block_lt_of_cell h
@[go_sem, simp] theorem gw_size (w : World) (p : Regrown) : (gw w p).heap.size = w.heap.size + p.os.size := by simp [gw, grow, redrawn]
def OldIn (b : Nat) (w : World) (p : Regrown) : Prop := w.heap.size ≤ b ∧ b < w.heap.size + p.os.size
@[go_sem] theorem old_alloc (w : World) (o : Obj) (b : Nat) : Old b (w.alloc o) = (b = w.heap.size ∨ Old b w) := by simp [Old]; omega
@[go_sem] theorem old_gw (w : World) (p : Regrown) (b : Nat) : Old b (gw w p) = (Old b w ∨ OldIn b w p) := by simp [Old, OldIn]; omega
@[go_sem] theorem old_setCell (w : World) (a : Addr) (v : Value) (b : Nat) : Old b (w.setCell a v) = Old b w := by simp [Old]
@[go_sem] theorem old_setRow (w : World) (g : Nat) (cs : Array Value) (b : Nat) : Old b (w.setRow g cs) = Old b w := by simp [Old]
@[go_sem] theorem old_drew (w : World) (b : Nat) : Old b w.drew = Old b w := by simp [Old]
@[go_sem] theorem gw_cell (w : World) (p : Regrown) (b o : Nat) (h : Old b w) : (gw w p).cell? ⟨b, o, none⟩ = w.cell? ⟨b, o, none⟩ := (gw_below w p).cell (p := ⟨b, o, none⟩) h.lt
@[go_sem] theorem gw_frozen (w : World) (p : Regrown) (b o : Nat) (h : Old b w) : (gw w p).frozen? ⟨b, o, none⟩ = w.frozen? ⟨b, o, none⟩ := (gw_below w p).frozen (p := ⟨b, o, none⟩) h.lt
@[go_sem] theorem alloc_cell (w : World) (ob : Obj) (b o : Nat) (h : Old b w) : (w.alloc ob).cell? ⟨b, o, none⟩ = w.cell? ⟨b, o, none⟩ := World.cell?_alloc_past ob b o h.lt
@[go_sem] theorem alloc_frozen (w : World) (ob : Obj) (b o : Nat) (h : Old b w) : (w.alloc ob).frozen? ⟨b, o, none⟩ = w.frozen? ⟨b, o, none⟩ := World.frozen?_alloc_past ob b o h.lt
@[go_sem] theorem alloc_setCell (w : World) (ob : Obj) (b o : Nat) (v : Value) (h : Old b w) : (w.alloc ob).setCell ⟨b, o, none⟩ v = (w.setCell ⟨b, o, none⟩ v).alloc ob := World.setCell_alloc_past ob b o v h.lt
theorem gw_heap (w : World) (p : Regrown) (b : Nat) (h : b < w.heap.size) : (gw w p).heap[b]? = w.heap[b]? := (gw_below w p).block b h
@[go_sem] theorem heap_gw (w : World) (p : Regrown) (b : Nat) (h : Old b w) : (gw w p).heap[b]? = w.heap[b]? := gw_heap w p b h.lt
@[go_sem] theorem heap_alloc_at' (w : World) (o : Obj) (b : Nat) (h : b = w.heap.size) : (w.alloc o).heap[b]? = some o := by subst h; exact heap_alloc_new w o
@[go_sem] theorem heap_alloc_past' (w : World) (o : Obj) (b : Nat) (h : Old b w) : (w.alloc o).heap[b]? = w.heap[b]? := heap_alloc_old w o h.lt
@[go_sem] theorem gw_setCell (w : World) (p : Regrown) (b o : Nat) (v : Value) (h : Old b w) : (gw w p).setCell ⟨b, o, none⟩ v = gw (w.setCell ⟨b, o, none⟩ v) p := by
  simp only [gw, grow, redrawn, World.setCell]
  rw [modify_append_left _ _ _ _ h.lt]
@[go_sem] theorem gw_drew (w : World) (p : Regrown) : (gw w p).drew = gw w ⟨p.d + 1, p.os⟩ := rfl

theorem gw_gw (w : World) (p q : Regrown) : gw (gw w p) q = gw w ⟨q.d, p.os ++ q.os⟩ := by
  simp only [gw, redrawn, grow, Array.append_assoc]
theorem gw_self (w : World) : w = gw w ⟨w.drawn, #[]⟩ := by simp [gw, redrawn, grow]
theorem gw_two (w : World) (p q : Regrown) : ∃ r : Regrown, gw (gw w p) q = gw w r := ⟨_, gw_gw w p q⟩
theorem heap_newest (w : World) (o : Obj) (p : Regrown) (b : Nat) (h : b = w.heap.size) : (gw (w.alloc o) p).heap[b]? = some o := by
  rw [gw_heap _ _ _ (by simp; omega)]; exact heap_alloc_at' w o b h
theorem setRow_gw (w : World) (p : Regrown) (b : Nat) (cs : Array Value) (h : Old b w) : (gw w p).setRow b cs = gw (w.setRow b cs) p := by
  simp only [gw, grow, redrawn, World.setRow]
  rw [modify_append_left _ _ _ _ h.lt]
theorem setRow_alloc_at (w : World) (c cs : Array Value) (t : TypeId) (n : Nat) (h : n = w.heap.size) : (w.alloc (.cells c t)).setRow n cs = w.alloc (.cells cs t) := by
  subst h
  simp only [World.alloc, World.setRow]
  congr 1
  apply Array.ext_getElem?
  intro k
  simp only [Array.getElem?_modify, Array.getElem?_push]
  by_cases hk : k = w.heap.size
  · subst hk; simp
  · have : ¬ w.heap.size = k := fun e => hk e.symm
    simp [hk, this]
theorem setRow_alloc_past (w : World) (o : Obj) (cs : Array Value) (n : Nat) (h : Old n w) : (w.alloc o).setRow n cs = (w.setRow n cs).alloc o := by
  simp only [World.alloc, World.setRow]
  congr 1
  apply Array.ext_getElem?
  intro k
  simp only [Array.getElem?_modify, Array.getElem?_push, Array.size_modify]
  by_cases hk : k = w.heap.size
  · subst hk; have : ¬ n = w.heap.size := by have := h.lt; omega
    simp [this]
  · simp [hk]
attribute [go_sem] setRow_gw setRow_alloc_at setRow_alloc_past

/-- The call returns v, and of what was there nothing has turned. -/
def Gives (v : Value) (w : World) (e : Ending) (w' : World) : Prop := e = .returned v ∧ ∃ p : Regrown, w' = gw w p
theorem Gives.mk {v u : Value} {w w' : World} (hv : u = v) (h : Below w.heap.size w w') : Gives v w (.returned u) w' := ⟨by rw [hv], gw_of_below h⟩

/-- A region that draws its order, reads and calls what makes memory of its own: one walk in the order of the text. -/
theorem wp_region_gw {P : Program} {id : Nat} {Q : Exit → Act → World → Prop} {a : Act} {w : World} {l : List Oper} (hm : P.follows .mixedOrders = true) (hB : Region.lexB .any l.toArray = true)
    (h : wpQuiet P l.toArray (fun w' => ∃ p : Regrown, w' = gw w p) (fun a' => ∀ w', (∃ p : Regrown, w' = gw w p) → Q .normal a' w') l a) : (Code.region id l.toArray true).wp P Q a w :=
  wp_region_quiet_below hm hB h
/-- A callee's contract, met in a world of the class. -/
theorem Gives.call {P : Program} {f : FuncId} {args : Array Value} {w : World} {p : Regrown} {v : Value}
    (h : Calls P f args (gw w p) (Gives v (gw w p))) : Calls P f args (gw w p) fun e w'' => e = .returned v ∧ ∃ q : Regrown, w'' = gw w q :=
  h.mono fun _ _ ⟨he, q, hq⟩ => ⟨he, ⟨q.d, p.os ++ q.os⟩, by rw [hq, gw_gw]⟩
theorem Same.call {P : Program} {f : FuncId} {args : Array Value} {w : World} {p : Regrown} {v : Value}
    (h : Calls P f args (gw w p) fun e w' => e = .returned v ∧ gw w p = w') : Calls P f args (gw w p) fun e w'' => e = .returned v ∧ ∃ q : Regrown, w'' = gw w q :=
  h.mono fun _ _ ⟨he, hq⟩ => ⟨he, p, hq.symm⟩

end Go.Proofs.Ytbhkcejjehgfcaa
