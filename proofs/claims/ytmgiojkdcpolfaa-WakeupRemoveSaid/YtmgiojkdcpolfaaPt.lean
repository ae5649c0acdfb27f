/- Trees as they lie. -/
import Derived.Test.YtmgiojkdcpolfaaWr
namespace Go.Proofs.Ytmgiojkdcpolfaa
open Go.RowKit Go.Sort

inductive PT
  | mk (s : PS) (ad : Option Addr) (cap : Nat) (ks : List PT)
/-- A tree without its addresses. -/
inductive T
  | nd (s : PS) (ks : List T)
namespace PT
def s : PT → PS | mk s _ _ _ => s
def ad : PT → Option Addr | mk _ a _ _ => a
def cap : PT → Nat | mk _ _ c _ => c
def ks : PT → List PT | mk _ _ _ k => k
mutual
def nodes : PT → List PT
  | mk s a c k => mk s a c k :: nodesL k
def nodesL : List PT → List PT
  | [] => []
  | t :: r => nodes t ++ nodesL r
end
mutual
def sh : PT → T
  | mk s _ _ k => .nd s (shL k)
def shL : List PT → List T
  | [] => []
  | t :: r => sh t :: shL r
end
end PT
open PT
theorem shL_map : ∀ l : List PT, shL l = l.map sh
  | [] => by simp [shL]
  | t :: r => by simp [shL, shL_map r]
theorem sh_eq (t : PT) : sh t = .nd t.s (t.ks.map sh) := by
  cases t; simp [sh, PT.s, PT.ks, shL_map]
theorem mem_nodesL : ∀ {l : List PT} {n : PT}, n ∈ nodesL l ↔ ∃ t ∈ l, n ∈ nodes t
  | [], n => by simp [nodesL]
  | t :: r, n => by simp [nodesL, mem_nodesL (l := r)]
theorem mem_nodes {t n : PT} : n ∈ nodes t ↔ n = t ∨ ∃ k ∈ t.ks, n ∈ nodes k := by
  cases t with
  | mk s a c k => simp [nodes, mem_nodesL, PT.ks]
theorem self_nodes (t : PT) : t ∈ nodes t := mem_nodes.2 (.inl rfl)
theorem kid_nodes {t k n : PT} (h : k ∈ t.ks) (hn : n ∈ nodes k) : n ∈ nodes t := mem_nodes.2 (.inr ⟨k, h, hn⟩)
theorem nodes_pos (t : PT) : 0 < (nodes t).length := List.length_pos_of_mem (self_nodes t)
theorem nodesL_le : ∀ {l : List PT} {t : PT}, t ∈ l → (nodes t).length ≤ (nodesL l).length
  | a :: r, t, h => by
    simp only [nodesL, List.length_append]
    rcases List.mem_cons.1 h with rfl | h
    · omega
    · have := nodesL_le h; omega
theorem nodesL_len : ∀ l : List PT, l.length ≤ (nodesL l).length
  | [] => by simp
  | t :: r => by have := nodesL_len r; have := nodes_pos t; simp [nodesL]; omega
theorem kid_less {t k : PT} (h : k ∈ t.ks) : (nodes k).length < (nodes t).length := by
  cases t with
  | mk s a c ks => have := nodesL_le (l := ks) h; simp [nodes]; omega
theorem kids_less (t : PT) : t.ks.length < (nodes t).length := by
  cases t with
  | mk s a c ks => have := nodesL_len ks; simp [nodes, PT.ks]; omega

abbrev trC (t : PT) : List Value := [.int .i64 t.s.g, .int .i64 t.s.c, .slice t.s.ga t.s.gs.length t.s.gc, .slice t.s.ta t.s.ts.length t.s.tc, .slice t.ad t.ks.length t.cap]
abbrev trV (t : PT) : Value := .agg #[.int .i64 t.s.g, .int .i64 t.s.c, .slice t.s.ga t.s.gs.length t.s.gc, .slice t.s.ta t.s.ts.length t.s.tc, .slice t.ad t.ks.length t.cap]
theorem trC_len (t : PT) : (trC t).length = 5 := rfl
theorem trC_one (t : PT) : ∀ u ∈ trC t, u.oneCell' = true := by
  intro u hu
  simp at hu
  rcases hu with rfl | rfl | rfl | rfl | rfl <;> rfl
theorem tree_info : ∃ (i : TypeInfo) (z : Value), Hid (Try.prog.info? 33 = some i ∧ i.zero = some z ∧ i.size = 5 ∧ i.bytes = 88 ∧ z.cells.size = 5) := info_of (by kernel_rfl)

/-- A node's rows are there; its step's own rows lie in the world W0 of long ago. -/
structure NodeAt (W0 w : World) (n : PT) : Prop where
  rd : Rd W0 n.s
  row : Row 5 trC w n.ad n.ks
  old : ∀ a, n.ad = some a → Old a.block w
variable {W0 : World}
theorem NodeAt.gw {w : World} {n : PT} (h : NodeAt W0 w n) (q : Regrown) : NodeAt W0 (gw w q) n := ⟨h.rd, h.row.gw q, fun a e => by have := (h.old a e).lt; simp [Old]; omega⟩
theorem NodeAt.below {w w' : World} {n : PT} (h : NodeAt W0 w n) (hb : Below w.heap.size w w') : NodeAt W0 w' n := by
  obtain ⟨p, rfl⟩ := gw_of_below hb
  exact h.gw p
/-- A tree lies in memory. -/
def Lies (W0 w : World) (t : PT) : Prop := ∀ n ∈ nodes t, NodeAt W0 w n
theorem Lies.below {w w' : World} {t : PT} (h : Lies W0 w t) (hb : Below w.heap.size w w') : Lies W0 w' t := fun n hn => (h n hn).below hb
theorem Lies.gw {w : World} {t : PT} (h : Lies W0 w t) (q : Regrown) : Lies W0 (gw w q) t := fun n hn => (h n hn).gw q
theorem Lies.kid {w : World} {t k : PT} (h : Lies W0 w t) (hk : k ∈ t.ks) : Lies W0 w k := fun n hn => h n (kid_nodes hk hn)
theorem Lies.self {w : World} {t : PT} (h : Lies W0 w t) : NodeAt W0 w t := h t (self_nodes t)
/-- All blocks of a tree from B on; none of them is g. -/
def Fresh (B : Nat) (t : PT) : Prop := ∀ n ∈ nodes t, ∀ a, n.ad = some a → B ≤ a.block
def Avoid (g : Option Nat) (t : PT) : Prop := ∀ n ∈ nodes t, ∀ a, n.ad = some a → some a.block ≠ g
theorem Avoid.kid {g : Option Nat} {t k : PT} (h : Avoid g t) (hk : k ∈ t.ks) : Avoid g k := fun n hn => h n (kid_nodes hk hn)
theorem Fresh.kid {g : Nat} {t k : PT} (h : Fresh g t) (hk : k ∈ t.ks) : Fresh g k := fun n hn => h n (kid_nodes hk hn)
theorem Fresh.mono {B B' : Nat} {t : PT} (h : Fresh B t) (hb : B' ≤ B) : Fresh B' t := fun n hn a e => by have := h n hn a e; omega
theorem Avoid.of_fresh {B g : Nat} {t : PT} (h : Fresh B t) (hg : g < B) : Avoid (some g) t := fun n hn a e he => by
  have := h n hn a e
  cases he
  omega
theorem Avoid.of_lies {w : World} {g : Nat} {t : PT} (h : Lies W0 w t) (hg : w.heap.size ≤ g) : Avoid (some g) t := fun n hn a e he => by
  have := ((h n hn).old a e).lt
  cases he
  omega
theorem Avoid.none' (t : PT) : Avoid none t := fun _ _ _ _ h => by cases h
/-- A step that turns one block leaves a tree that avoids it; the steps' own rows lie below B. -/
theorem Row.grown {α : Type} {n : Nat} {f : α → List Value} {w w' : World} {ad : Option Addr} {l : List α} {g : Option Nat} (h : Row n f w ad l) (hg : w.grownBy w' g) (hne : ∀ a, ad = some a → some a.block ≠ g) : Row n f w' ad l := fun h0 => by
  obtain ⟨b, off, e, ho, hc⟩ := h h0
  have hb := hg.block b ho (hne _ e)
  have := hg.size
  exact ⟨b, off, e, by have := ho.lt; simp only [Old]; omega, fun k hk i hi => (World.cell?_of_block (a := ⟨b, off + k * n + i, none⟩) hb).trans (hc k hk i hi)⟩
theorem Lies.grown {w w' : World} {t : PT} {g : Option Nat} (h : Lies W0 w t) (hg : w.grownBy w' g) (ha : Avoid g t) : Lies W0 w' t := fun n hn => ⟨(h n hn).rd, (h n hn).row.grown hg (ha n hn), fun a e => by have := ((h n hn).old a e).lt; have := hg.size; simp only [Old]; omega⟩
/-- A tree out of its parts. -/
theorem Lies.mk' {w : World} {s : PS} {ad : Option Addr} {cap : Nat} {ks : List PT} (hr : Rd W0 s) (hrow : Row 5 trC w ad ks) (ho : ∀ a, ad = some a → Old a.block w) (hk : ∀ k ∈ ks, Lies W0 w k) : Lies W0 w (.mk s ad cap ks) := fun n hn => by
  rcases mem_nodes.1 hn with rfl | ⟨k, hk1, hk2⟩
  · exact ⟨hr, hrow, ho⟩
  · exact hk k hk1 n hk2
theorem Fresh.mk' {B : Nat} {s : PS} {ad : Option Addr} {cap : Nat} {ks : List PT} (ha : ∀ a, ad = some a → B ≤ a.block) (hk : ∀ k ∈ ks, Fresh B k) : Fresh B (.mk s ad cap ks) := fun n hn => by
  rcases mem_nodes.1 hn with rfl | ⟨k, hk1, hk2⟩
  · exact ha
  · exact hk k hk1 n hk2
theorem own_old {w : World} {B : Nat} {e : TypeId} {size n : Nat} {ad : Option Addr} {m cap : Nat} {xs : List Value} (h : w.ownsRow B e size (.slice ad m cap) n xs) : ∀ a, ad = some a → Old a.block w ∧ B ≤ a.block := fun a ha => by
  rcases h.2 with ⟨he, _⟩ | ⟨g, c, cur, he, hb, hg, _⟩
  · cases he; cases ha
  · cases he; cases ha; exact ⟨(Array.getElem?_eq_some_iff.1 hg).1, hb⟩

end Go.Proofs.Ytmgiojkdcpolfaa
