/- leaves: what a round keeps, and what the iterator holds. -/
import Derived.Test.YtmgiojkdcpolfaaPi
import Derived.Test.YtmgiojkdcpolfaaBi
import Derived.Test.YtmgiojkdcpolfaaRu
namespace Go.Proofs.Ytmgiojkdcpolfaa
open Go.RowKit Go.Sort Go.Shelf PT

/-- The blocks of him who collects: his box, and the row that it holds. -/
def Cons (B : Nat) (W : World) (k : Nat) : Prop := k = B ∨ ∃ v, W.cell? ⟨B, 0, none⟩ = some v ∧ v.ownBlock = some k
def Cok (B : Nat) (W : World) : Prop := ∃ v, W.cell? ⟨B, 0, none⟩ = some v ∧ ∀ g, v.ownBlock = some g → g < W.heap.size
theorem Cok.lt {B : Nat} {W : World} (h : Cok B W) : B < W.heap.size := by obtain ⟨v, h1, _⟩ := h; exact Old.of_cell h1
theorem Cok.below {B : Nat} {W V : World} (h : Cok B W) (hb : Below W.heap.size W V) : Cok B V := by
  have hl := h.lt
  obtain ⟨v, h1, h2⟩ := h
  exact ⟨v, (hb.cell (p := ⟨B, 0, none⟩) hl).trans h1, fun g e => Nat.lt_of_lt_of_le (h2 g e) hb.size⟩
theorem cons_below {B : Nat} {W V : World} (h : Cok B W) (hb : Below W.heap.size W V) (k : Nat) : Cons B V k ↔ Cons B W k := by
  unfold Cons
  rw [hb.cell (p := ⟨B, 0, none⟩) h.lt]
theorem cons_lt {B : Nat} {W : World} (h : Cok B W) {k : Nat} (hk : Cons B W k) : k < W.heap.size := by
  have hl := h.lt
  obtain ⟨v, h1, h2⟩ := h
  rcases hk with rfl | ⟨v', h3, h4⟩
  · exact hl
  · rw [h1] at h3; cases h3; exact h2 k h4
theorem cons_new {B : Nat} {W V : World} (h : Cok B W) (hb : Below W.heap.size W V) {k : Nat} (hk : W.heap.size ≤ k) : ¬ Cons B V k := fun hc => by
  have := cons_lt h ((cons_below h hb k).1 hc)
  omega
/-- What a round keeps. -/
structure KpL (B n0 n : Nat) (W W' : World) : Prop where
  below : Below n0 W W'
  size : W.heap.size ≤ W'.heap.size
  others : ∀ k o, n ≤ k → W.heap[k]? = some o → o.isCells = false → W'.heap[k]? = some o
  cells : ∀ k o, ¬ Cons B W k → W.heap[k]? = some o → o.isCells = true → W'.heap[k]? = some o ∧ ¬ Cons B W' k
variable {B n0 n : Nat}
theorem KpL.refl (W : World) : KpL B n0 n W W := ⟨Below.refl _ _, Nat.le_refl _, fun _ _ _ h _ => h, fun _ _ hc h _ => ⟨h, hc⟩⟩
theorem KpL.trans {X Y Z : World} (h : KpL B n0 n X Y) (k : KpL B n0 n Y Z) : KpL B n0 n X Z :=
  ⟨h.below.trans k.below, Nat.le_trans h.size k.size, fun i o hi ho hc => k.others i o hi (h.others i o hi ho hc) hc, fun i o hn ho hc => by
    obtain ⟨h1, h2⟩ := h.cells i o hn ho hc
    exact k.cells i o h2 h1 hc⟩
theorem KpL.mono {n' : Nat} {X Y : World} (h : KpL B n0 n X Y) (hn : n ≤ n') : KpL B n0 n' X Y := ⟨h.below, h.size, fun k o hk => h.others k o (by omega), h.cells⟩
theorem KpL.of_below {W V : World} (hc : Cok B W) (hb : Below W.heap.size W V) (h0 : n0 ≤ W.heap.size) : KpL B n0 n W V :=
  ⟨hb.mono h0, hb.size, fun k _ _ ho _ => (hb.block k (Array.getElem?_eq_some_iff.1 ho).1).trans ho, fun k _ hk ho _ => ⟨(hb.block k (Array.getElem?_eq_some_iff.1 ho).1).trans ho, fun h => hk ((cons_below hc hb k).1 h)⟩⟩
/-- A turn of what is no cells, laid since X. -/
theorem KpL.put {X W : World} (h : KpL B n0 n X W) {l : Nat} {o : Obj} (o' : Obj) (hl : X.heap.size ≤ l ∨ l < n) (h0 : n0 ≤ l) (hB : B ≠ l) (ho : W.heap[l]? = some o) (hco : o.isCells = false) : KpL B n0 n X (W.putObj l o') := by
  have hg := grownBy_putObj' W l o'
  have hc : ∀ k, Cons B (W.putObj l o') k ↔ Cons B W k := fun k => by
    unfold Cons
    rw [World.cell?_of_block (a := ⟨B, 0, none⟩) (World.putObj_heap_other hB)]
  refine ⟨below_grown h.below hg (Nat.le_trans h.below.size (Nat.le_refl _) |> fun _ => ?_) (fun k e => by cases e; exact h0), Nat.le_trans h.size hg.size, fun k u hk hu hcu => ?_, fun k u hk hu hcu => ?_⟩
  · have := (Array.getElem?_eq_some_iff.1 ho).1; omega
  · have hne : k ≠ l := fun e => by
      subst e
      rcases hl with h1 | h1
      · have := (Array.getElem?_eq_some_iff.1 hu).1; omega
      · omega
    exact (World.putObj_heap_other hne).trans (h.others k u hk hu hcu)
  · obtain ⟨h1, h2⟩ := h.cells k u hk hu hcu
    have hne : k ≠ l := fun e => by subst e; rw [ho] at h1; cases h1; rw [hco] at hcu; cases hcu
    exact ⟨(World.putObj_heap_other hne).trans h1, fun hx => h2 ((hc k).1 hx)⟩

/-- A block of the iterator's own. -/
def Mine (B : Nat) (W : World) (k : Nat) (c : Array Value) (t : TypeId) : Prop := W.heap[k]? = some (.cells c t (0, 0)) ∧ ¬ Cons B W k
theorem Mine.kp {W V : World} {k : Nat} {c : Array Value} {t : TypeId} (h : Mine B W k c t) (hk : KpL B n0 n W V) : Mine B V k c t := hk.cells k _ h.2 h.1 rfl
theorem Mine.below {W V : World} {k : Nat} {c : Array Value} {t : TypeId} (h : Mine B W k c t) (hc : Cok B W) (hb : Below W.heap.size W V) : Mine B V k c t :=
  ⟨(hb.block k (Array.getElem?_eq_some_iff.1 h.1).1).trans h.1, fun hx => h.2 ((cons_below hc hb k).1 hx)⟩
theorem Mine.lt {W : World} {k : Nat} {c : Array Value} {t : TypeId} (h : Mine B W k c t) : k < W.heap.size := (Array.getElem?_eq_some_iff.1 h.1).1
theorem Mine.put {W : World} {k : Nat} {c : Array Value} {t : TypeId} (h : Mine B W k c t) {l : Nat} {o : Obj} (o' : Obj) (hB : B ≠ l) (ho : W.heap[l]? = some o) (hco : o.isCells = false) : Mine B (W.putObj l o') k c t := by
  have hne : k ≠ l := fun e => by subst e; have h' := h.1; rw [ho] at h'; cases h'; cases hco
  refine ⟨(World.putObj_heap_other hne).trans h.1, fun hx => h.2 ?_⟩
  unfold Cons at hx ⊢
  rwa [World.cell?_of_block (a := ⟨B, 0, none⟩) (World.putObj_heap_other hB)] at hx

/-- A path as it lies. -/
structure PA where
  ad : Option Addr
  l : List PS
  cap : Nat
abbrev paV (p : PA) : Value := .slice p.ad p.l.length p.cap
structure PAok (W0 : World) (B : Nat) (W : World) (p : PA) : Prop where
  row : Row 4 stC W p.ad p.l
  mine : ∀ a, p.ad = some a → (∃ c t, W.heap[a.block]? = some (.cells c t (0, 0))) ∧ ¬ Cons B W a.block
  cap : p.l.length ≤ p.cap
  nil : p.ad = none → p.cap = 0
  rd : ∀ s ∈ p.l, Rd W0 s
theorem PAok.kp {W0 W V : World} {p : PA} (h : PAok W0 B W p) (hk : KpL B n0 n W V) : PAok W0 B V p := by
  refine ⟨h.row.other fun b off e => ?_, fun a e => ?_, h.cap, h.nil, h.rd⟩
  · obtain ⟨⟨c, t, hc⟩, hm⟩ := h.mine _ e
    rw [hc]
    exact (hk.cells _ _ hm hc rfl).1
  · obtain ⟨⟨c, t, hc⟩, hm⟩ := h.mine _ e
    exact ⟨⟨c, t, (hk.cells _ _ hm hc rfl).1⟩, (hk.cells _ _ hm hc rfl).2⟩
theorem PAok.below {W0 W V : World} {p : PA} (h : PAok W0 B W p) (hc : Cok B W) (hb : Below W.heap.size W V) : PAok W0 B V p := h.kp (n0 := 0) (n := 0) (KpL.of_below hc hb (Nat.zero_le _))
theorem PAok.put {W0 W : World} {p : PA} (h : PAok W0 B W p) {l : Nat} {o : Obj} (o' : Obj) (hB : B ≠ l) (ho : W.heap[l]? = some o) (hco : o.isCells = false) : PAok W0 B (W.putObj l o') p := by
  have hne : ∀ a, p.ad = some a → a.block ≠ l := fun a e e' => by
    obtain ⟨⟨c, t, hc⟩, _⟩ := h.mine _ e
    rw [e', ho] at hc; cases hc; cases hco
  refine ⟨h.row.other fun b off e => World.putObj_heap_other (hne _ e), fun a e => ?_, h.cap, h.nil, h.rd⟩
  obtain ⟨⟨c, t, hc⟩, hm⟩ := h.mine _ e
  exact ⟨⟨c, t, (World.putObj_heap_other (hne a e)).trans hc⟩, (Mine.put (c := c) (t := t) ⟨hc, hm⟩ o' hB ho hco).2⟩
/-- A path out of a row of one's own, laid since W. -/
theorem PAok.of_own {W0 W V : World} {ad : Option Addr} {l : List PS} {cap : Nat} (hc : Cok B W) (hb : Below W.heap.size W V) (h : V.ownsRow W.heap.size 30 4 (.slice ad l.length cap) l.length (l.flatMap stC)) (hr : ∀ s ∈ l, Rd W0 s) : PAok W0 B V ⟨ad, l, cap⟩ := by
  refine ⟨row_own stC_len h rfl, fun a e => ?_, ?_, own_nilcap h, hr⟩
  · simp only at e
    subst e
    rcases h.2 with ⟨he, _⟩ | ⟨g, c, cur, he, hg, hh, _⟩
    · cases he
    · cases he
      exact ⟨⟨_, _, hh⟩, cons_new hc hb hg⟩
  · obtain ⟨ad', cap', he, h1, _⟩ := own_val h
    cases he
    exact h1

theorem KpL.keep {X A V : World} (h : KpL B n0 n X A) (hc : Cok B A) {row : Option Nat} (hg : A.grownBy V row) (hr : ∀ r, row = some r → X.heap.size ≤ r ∧ ∃ o : Obj, A.heap[r]? = some o ∧ o.isCells = false) (h0 : n0 ≤ X.heap.size) : KpL B n0 n X V := by
  have hcell : V.cell? ⟨B, 0, none⟩ = A.cell? ⟨B, 0, none⟩ := by
    obtain ⟨v, h1, _⟩ := hc
    obtain ⟨o, ho, hco⟩ := cells_of_cell h1
    exact World.cell?_of_block (hg.block _ (Array.getElem?_eq_some_iff.1 ho).1 (fun e => by
      obtain ⟨o', ho', hco'⟩ := (hr _ e.symm).2
      rw [ho] at ho'; cases ho'; rw [hco] at hco'; cases hco'))
  have hcc : ∀ k, Cons B V k ↔ Cons B A k := fun k => by unfold Cons; rw [hcell]
  refine ⟨below_grown h.below hg (Nat.le_trans h0 h.size) (fun k e => by have := (hr k e).1; omega), Nat.le_trans h.size hg.size, fun k u hk hu hcu => ?_, fun k u hk hu hcu => ?_⟩
  · have := h.others k u hk hu hcu
    refine (hg.block k (Array.getElem?_eq_some_iff.1 this).1 (fun e => ?_)).trans this
    have h1 := (hr k e.symm).1
    have h2 := (Array.getElem?_eq_some_iff.1 hu).1
    omega
  · obtain ⟨h1, h2⟩ := h.cells k u hk hu hcu
    refine ⟨(hg.block k (Array.getElem?_eq_some_iff.1 h1).1 (fun e => ?_)).trans h1, fun hx => h2 ((hcc k).1 hx)⟩
    obtain ⟨o', ho', hco'⟩ := (hr k e.symm).2
    rw [h1] at ho'; cases ho'; rw [hcu] at hco'; cases hco'

theorem Mine.keep {A V : World} {k : Nat} {c : Array Value} {t : TypeId} (h : Mine B A k c t) (hc : Cok B A) {row : Option Nat} (hg : A.grownBy V row) (hr : ∀ r, row = some r → ∃ o : Obj, A.heap[r]? = some o ∧ o.isCells = false) : Mine B V k c t := by
  refine ⟨block_keep hg hr h.1, fun hx => h.2 ?_⟩
  have hcell : V.cell? ⟨B, 0, none⟩ = A.cell? ⟨B, 0, none⟩ := by
    obtain ⟨v, h1, _⟩ := hc
    obtain ⟨o, ho, hco⟩ := cells_of_cell h1
    exact World.cell?_of_block (hg.block _ (Array.getElem?_eq_some_iff.1 ho).1 (fun e => by
      obtain ⟨o', ho', hco'⟩ := hr _ e.symm
      rw [ho] at ho'; cases ho'; rw [hco] at hco'; cases hco'))
  unfold Cons at hx ⊢
  rwa [hcell] at hx
theorem PAok.keep {W0 A V : World} {p : PA} (h : PAok W0 B A p) (hc : Cok B A) {row : Option Nat} (hg : A.grownBy V row) (hr : ∀ r, row = some r → ∃ o : Obj, A.heap[r]? = some o ∧ o.isCells = false) : PAok W0 B V p := by
  refine ⟨h.row.keep (by omega) stC_len hg hr, fun a e => ?_, h.cap, h.nil, h.rd⟩
  obtain ⟨⟨c, t, hcc⟩, hm⟩ := h.mine _ e
  have := Mine.keep (c := c) (t := t) ⟨hcc, hm⟩ hc hg hr
  exact ⟨⟨c, t, this.1⟩, this.2⟩

/-! ### Marks of many loops -/
abbrev markOf (D : Nat) : Deferred := { target := .collected D, args := #[] }
theorem leaves_marks {F : Fence} {m : Nat} {P : Program} {fn : Func} {R : Ending → World → Prop} {tmps : Array Value} {v : Value} (hres : ∀ w, (results fn tmps).run P w = .ok v w) (Z : World → Prop) (hZ : ∀ W, Z W → R (.returned v) W) (Ds0 : List Nat)
    (hput : ∀ W D, D ∈ Ds0 → Z W → W.heap[D]? = some (.deferred (some [])) → Z (W.putObj D (.deferred none))) : ∀ (Ds : List Nat) (W : World), (∀ D ∈ Ds, D ∈ Ds0) → (∀ D ∈ Ds, W.heap[D]? = some (.deferred (some []))) → Ds.Nodup → Z W → LeavesInM F m P fn tmps R (Ds.map markOf) .returning W
  | [], W, _, _, _, hz => ⟨v, hres W, hZ W hz⟩
  | D :: Ds, W, hs, hD, hn, hz => by
    have h1 := hD D (List.mem_cons.2 (.inl rfl))
    refine ⟨by simp, .inl ⟨D, _, rfl, run_takeDeferred h1, leaves_marks hres Z hZ Ds0 hput Ds _ (fun E hE => hs E (List.mem_cons.2 (.inr hE))) (fun E hE => ?_) (List.nodup_cons.1 hn).2 (hput _ _ (hs D (List.mem_cons.2 (.inl rfl))) hz h1)⟩⟩
    have hne : E ≠ D := fun e => (List.nodup_cons.1 hn).1 (e ▸ hE)
    exact (World.putObj_heap_other hne).trans (hD E (List.mem_cons.2 (.inr hE)))
theorem wp_loop_k {P : Program} {Q : Exit → Act → World → Prop} {a : Act} {w : World} {c : Code} (I : Act → World → Prop) (μ : Act → World → Nat) (h₀ : I a w)
    (round : ∀ a w, I a w → ∀ K : Act → World → Prop, (∀ a' w', I a' w' → μ a' w' < μ a w → K a' w') → c.wp P (Exit.then K Q) a w) : (Code.loop c).wp P Q a w :=
  wp_loop I μ h₀ fun a w h => round a w h _ fun _ _ h1 h2 => ⟨h1, h2⟩
theorem RoundIn.any {m m' : Nat} {P : Program} {l : Nat} {f : FuncId} {tmps : Array Value} {assign body : Code} {w : World} {R : Ending → World → Prop}
    (h : RoundIn Fence.wide m P l f tmps assign body w R) : RoundIn Fence.wide m' P l f tmps assign body w R := ⟨h.1, fun c cs _ => h.2 c cs (room_wide _)⟩
theorem YieldAt.any {m : Nat} (m' : Nat) {P : Program} {l : Nat} {args : Array Value} {W : World} {R : Ending → World → Prop} (h : YieldAt Fence.wide m P l args W R) : YieldAt Fence.wide m' P l args W R := by
  obtain ⟨fn, tmps, assign, body, hy, hR⟩ := h
  exact ⟨fn, tmps, assign, body, hy, RoundIn.any hR⟩
theorem RoundIn.inRound {F : Fence} {m : Nat} {P : Program} {l l' : Nat} {f : FuncId} {tmps : Array Value} {assign body : Code} {w : World} {R : Ending → World → Prop}
    (h : RoundIn F m P l f tmps assign body w R) : RoundIn (F.inRound l') m P l f tmps assign body w R := h

/-! ### The paths of a tree -/
mutual
def lvT (be : List PS) : T → List (List PS)
  | .nd s ks => if ks.isEmpty then [be ++ [s]] else lvK (be ++ [s]) ks
def lvK (be : List PS) : List T → List (List PS)
  | [] => []
  | k :: r => lvT be k ++ lvK be r
end
theorem lvK_append (be : List PS) : ∀ a b : List T, lvK be (a ++ b) = lvK be a ++ lvK be b
  | [], b => by simp [lvK]
  | x :: a, b => by simp [lvK, lvK_append be a b, List.append_assoc]

end Go.Proofs.Ytmgiojkdcpolfaa
