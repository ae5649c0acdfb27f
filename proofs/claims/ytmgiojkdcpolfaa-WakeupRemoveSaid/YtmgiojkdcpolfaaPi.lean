/- Insertion, in plain Lean; and a tree under construction. -/
import Derived.Test.YtmgiojkdcpolfaaCl
namespace Go.Proofs.Ytmgiojkdcpolfaa
open Go.RowKit Go.Sort PT

def T.s : T → PS | .nd s _ => s
def T.ks : T → List T | .nd _ k => k
def chain : List PS → List T
  | [] => []
  | s :: r => [.nd s (chain r)]
mutual
def insT : T → List PS → Bool → T
  | .nd s ks, l, root => if l.isEmpty || (!root && ks.isEmpty) then .nd s ks else .nd s ((insL ks l).getD (ks ++ chain l))
def insL : List T → List PS → Option (List T)
  | [], _ => none
  | k :: r, l => match wo l k.s with
    | some rest => some (insT k rest false :: r)
    | none => (insL r l).map (k :: ·)
end
theorem insL_none : ∀ {ks : List T} {l : List PS}, (∀ k ∈ ks, wo l k.s = none) → insL ks l = none
  | [], _, _ => by simp [insL]
  | k :: r, l, h => by
    rw [insL, h k (List.mem_cons.2 (.inl rfl))]
    simp [insL_none (ks := r) fun x hx => h x (List.mem_cons.2 (.inr hx))]
theorem insL_hit : ∀ {ks : List T} {l rest : List PS} {i : Nat} {k : T}, ks[i]? = some k → (∀ j x, j < i → ks[j]? = some x → wo l x.s = none) → wo l k.s = some rest → insL ks l = some (ks.set i (insT k rest false))
  | a :: r, l, rest, 0, k, h, _, hw => by
    simp at h
    subst h
    rw [insL, hw]
    rfl
  | a :: r, l, rest, i + 1, k, h, hn, hw => by
    rw [insL, hn 0 a (by omega) rfl]
    simp only
    rw [insL_hit (ks := r) (i := i) (by simpa using h) (fun j x hj hx => hn (j + 1) x (by omega) (by simpa using hx)) hw]
    rfl
theorem sh_s (t : PT) : (sh t).s = t.s := by rw [sh_eq]; rfl

/-- What insert gives. -/
def InsPost (W0 : World) (t : T) (w : World) (e : Ending) (w' : World) : Prop := ∃ t' p, e = .returned (trV t') ∧ w' = gw w p ∧ sh t' = t ∧ Lies W0 w' t' ∧ Fresh w.heap.size t'
theorem CI.ins {W0 w wr wF : World} {s : PS} {rb bo vc : Nat} {vd : Option Addr} {cs : List PT} {t : T} (h : CI W0 w wr s rb bo (.slice vd cs.length vc) cs) (hrd : Rd W0 s) (hlow : w.heap.size ≤ rb) (hg : wr.grownBy wF (some rb)) (hsh : .nd s (cs.map sh) = t) :
    InsPost W0 t w (.returned (trV (.mk s vd vc cs))) wF := by
  obtain ⟨p, h1, h2, h3, _⟩ := h.fin hrd hlow hg
  exact ⟨_, p, rfl, h1, by rw [sh_eq, ← hsh]; rfl, h2, h3⟩
/-- Out of a clone, boxed anew. -/
theorem ci_start {W0 w W1 : World} {rb : Nat} {t : PT} {p : Regrown} (hw : w.heap.size ≤ W1.heap.size) (hb : Below w.heap.size w W1) (hl : Lies W0 (gw W1 p) t) (hf : Fresh W1.heap.size t)
    (hown : (gw W1 p).ownsRow W1.heap.size 33 5 (.slice t.ad t.ks.length t.cap) t.ks.length (t.ks.flatMap trC)) (ha : ∀ k ∈ t.ks, Avoid (Value.slice t.ad t.ks.length t.cap).ownBlock k)
    (hrb : rb < W1.heap.size) (hres : W1.heap[rb]? = some (.cells (#[.int .i64 0, .int .i64 0, .slice none 0 0, .slice none 0 0, .slice none 0 0]) 33 (0, 0))) :
    CI W0 w ((gw W1 p).alloc (.cells (boxC t.s (.slice t.ad t.ks.length t.cap)) 33)) t.s rb (gw W1 p).heap.size (.slice t.ad t.ks.length t.cap) t.ks := by
  have hsz : W1.heap.size ≤ (gw W1 p).heap.size := by simp
  refine ⟨(below_gw hb hw p).alloc (by omega) _, (own_of_block hown fun g hg => Below.heap_alloc _ _ _ (hown.lt g hg).2) |> fun h => own_low h hw, fun c hc => ⟨(hl.kid hc).below ((Below.refl _ _).alloc (Nat.le_refl _) _), (hf.kid hc).mono hw, ha c hc, Avoid.of_lies (hl.kid hc) (Nat.le_refl _), Avoid.of_fresh (hf.kid hc) hrb⟩, heap_alloc_at' _ _ _ rfl, by omega, fun e => ?_, ?_, by omega, fun e => ?_⟩
  · have := (hown.lt _ e).2; omega
  · rw [heap_alloc_past' _ _ _ (by simp only [Old]; omega), gw_heap _ _ _ hrb]; exact hres
  · have := (hown.lt _ e).1; omega
/-- A step that turns a block of another box. -/
theorem CI.other {W0 w wr w' : World} {s : PS} {rb bo bb : Nat} {v : Value} {cs : List PT} (h : CI W0 w wr s rb bo v cs) (hg : wr.grownBy w' (some bb)) (hlow : w.heap.size ≤ bb) (h1 : bb ≠ bo) (h2 : bb ≠ rb) (h3 : v.ownBlock ≠ some bb) (h4 : ∀ c ∈ cs, Avoid (some bb) c) : CI W0 w w' s rb bo v cs :=
  ⟨below_grown h.below hg h.below.size (fun k hk => by cases hk; exact hlow), own_of_block h.own fun g hgg => hg.block g (h.own.lt g hgg).2 (fun e => h3 (by rw [hgg, e])), fun c hc => ⟨(h.lies c hc).1.grown hg (h4 c hc), (h.lies c hc).2⟩,
   (hg.block bo (Array.getElem?_eq_some_iff.1 h.box).1 (fun e => h1 (by cases e; rfl))).trans h.box, h.low, h.ne, (hg.block rb (Array.getElem?_eq_some_iff.1 h.res).1 (fun e => h2 (by cases e; rfl))).trans h.res, h.rne, h.rnv⟩

theorem flat_take {α : Type} {n : Nat} {f : α → List Value} (hf : ∀ x, (f x).length = n) (l : List α) (i : Nat) (h : i ≤ l.length) : (l.flatMap f).take (i * n) = (l.take i).flatMap f ∧ (l.flatMap f).drop (i * n) = (l.drop i).flatMap f := by
  have hl : ((l.take i).flatMap f).length = i * n := by rw [flat_len hf, List.length_take, Nat.min_eq_left h]
  have e : l.flatMap f = (l.take i).flatMap f ++ (l.drop i).flatMap f := by rw [← List.flatMap_append, List.take_append_drop]
  constructor
  · rw [e, ← hl, List.take_left]
  · rw [e, ← hl, List.drop_left]
theorem flat_set {α : Type} {n : Nat} {f : α → List Value} (hf : ∀ x, (f x).length = n) (l : List α) (i : Nat) (c : α) (h : i < l.length) : (l.set i c).flatMap f = (l.flatMap f).take (i * n) ++ f c ++ (l.flatMap f).drop (i * n + n) := by
  rw [List.set_eq_take_append_cons_drop, if_pos h, List.flatMap_append, List.flatMap_cons, (flat_take hf l i (by omega)).1, show i * n + n = (i + 1) * n by rw [Nat.add_mul]; omega, (flat_take hf l (i + 1) h).2, List.append_assoc]
theorem take_splice (cur : List Value) (off N : Nat) (cs : List Value) (h : off + cs.length ≤ N) (hN : N ≤ cur.length) : (cur.take off ++ cs ++ cur.drop (off + cs.length)).take N = (cur.take N).take off ++ cs ++ (cur.take N).drop (off + cs.length) := by
  have e1 : (cur.take off ++ cs).length = off + cs.length := by simp; omega
  rw [List.take_append, e1, List.take_of_length_le (by omega), List.take_take, Nat.min_eq_left (by omega), List.drop_take]
theorem own_splice {α : Type} {n : Nat} {f : α → List Value} (hf : ∀ x, (f x).length = n) {w : World} {B g cap : Nat} {e : TypeId} {l : List α} {cur : Array Value} (h : w.ownsRow B e n (.slice (some ⟨g, 0, none⟩) l.length cap) l.length (l.flatMap f))
    (hcur : w.heap[g]? = some (.cells cur e (0, 0))) (i : Nat) (c : α) (hi : i < l.length) :
    (w.setRow g (splice cur (i * n) (f c).toArray)).ownsRow B e n (.slice (some ⟨g, 0, none⟩) l.length cap) (l.set i c).length ((l.set i c).flatMap f) := by
  rcases h.2 with ⟨he, _⟩ | ⟨g', cap', cur', he, hb, hg, h1, h2, h3, h4⟩
  · cases he
  · cases he
    rw [hg] at hcur
    cases hcur
    have hin : (i + 1) * n ≤ l.length * n := Nat.mul_le_mul_right _ hi
    rw [Nat.add_mul, Nat.one_mul] at hin
    have hln : l.length * n ≤ cur.size := by rw [h3]; exact Nat.mul_le_mul_right _ h1
    have hsz : (splice cur (i * n) (f c).toArray).size = cur.size := splice_size _ _ _ (by simp [hf]; omega)
    refine ⟨by rw [flat_len hf], .inr ⟨g, cap, splice cur (i * n) (f c).toArray, by rw [List.length_set], hb, setRow_heap w g cur _ e _ hg, by rw [List.length_set]; exact h1, h2, by rw [hsz]; exact h3, ?_⟩⟩
    rw [List.length_set, flat_set hf _ _ _ hi, ← h4]
    have := take_splice cur.toList (i * n) (l.length * n) (f c) (by rw [hf]; exact hin) (by simpa using hln)
    rw [hf] at this
    simpa [splice, hf] using this
theorem own_cur {w : World} {B g cap : Nat} {e : TypeId} {size n : Nat} {xs : List Value} {m : Nat} (h : w.ownsRow B e size (.slice (some ⟨g, 0, none⟩) m cap) n xs) : ∃ cur, w.heap[g]? = some (.cells cur e (0, 0)) ∧ cur.size = cap * size ∧ n ≤ cap := by
  rcases h.2 with ⟨he, _⟩ | ⟨g', cap', cur', he, hb, hg, h1, h2, h3, h4⟩
  · cases he
  · cases he
    exact ⟨_, hg, h3, h1⟩
theorem own_nilcap {w : World} {B : Nat} {e : TypeId} {size n m cap : Nat} {ad : Option Addr} {xs : List Value} (h : w.ownsRow B e size (.slice ad m cap) n xs) : ad = none → cap = 0 := fun ha => by
  rcases h.2 with ⟨he, _⟩ | ⟨g, c, cur, he, _⟩
  · cases he; rfl
  · subst ha; cases he
theorem own_form {w : World} {B : Nat} {e : TypeId} {size n m cap : Nat} {ad : Option Addr} {xs : List Value} (h : w.ownsRow B e size (.slice ad m cap) n xs) (hn : 0 < n) : ∃ g, ad = some ⟨g, 0, none⟩ := by
  rcases h.2 with ⟨_, h0⟩ | ⟨g, c, cur, he, _⟩
  · omega
  · cases he; exact ⟨g, rfl⟩
theorem grown_row (w : World) (g : Nat) (cs : Array Value) : w.grownBy (w.setRow g cs) (some g) := ⟨rfl, rfl, rfl, by simp, fun k _ hk => setRow_other w g k cs (fun e => hk (by rw [e]))⟩
/-- One child is replaced. -/
theorem CI.set {W0 w wr : World} {s : PS} {rb bo g cap : Nat} {cs : List PT} {cur : Array Value} (h : CI W0 w wr s rb bo (.slice (some ⟨g, 0, none⟩) cs.length cap) cs) (hcur : wr.heap[g]? = some (.cells cur 33 (0, 0))) (i : Nat) (c : PT) (hi : i < cs.length)
    (hc : Lies W0 wr c) (hf : Fresh w.heap.size c) (h1 : Avoid (some g) c) (h2 : Avoid (some bo) c) (h3 : Avoid (some rb) c) :
    CI W0 w (wr.setRow g (splice cur (i * 5) (trC c).toArray)) s rb bo (.slice (some ⟨g, 0, none⟩) (cs.set i c).length cap) (cs.set i c) := by
  have hg := grown_row wr g (splice cur (i * 5) (trC c).toArray)
  have hgg := h.own.lt g rfl
  rw [List.length_set]
  refine ⟨below_grown h.below hg h.below.size (fun k hk => by cases hk; exact hgg.1), own_splice trC_len h.own hcur i c hi, fun x hx => ?_, (hg.block bo (Array.getElem?_eq_some_iff.1 h.box).1 (fun e => h.ne e.symm)).trans h.box, h.low, h.ne, (hg.block rb (Array.getElem?_eq_some_iff.1 h.res).1 (fun e => h.rnv e.symm)).trans h.res, h.rne, h.rnv⟩
  rcases List.mem_or_eq_of_mem_set hx with hx | rfl
  · obtain ⟨a1, a2, a3, a4, a5⟩ := h.lies x hx
    exact ⟨a1.grown hg a3, a2, a3, a4, a5⟩
  · exact ⟨hc.grown hg h1, hf, h1, h2, h3⟩

end Go.Proofs.Ytmgiojkdcpolfaa
