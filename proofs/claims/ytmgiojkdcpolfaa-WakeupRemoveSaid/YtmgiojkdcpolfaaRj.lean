/- Insert of the reference. -/
import Derived.Test.YtmgiojkdcpolfaaRc
import Derived.Test.YtmgiojkdcpolfaaPi
namespace Go.Proofs.Ytmgiojkdcpolfaa
open Go.RowKit Go.Sort PT

theorem mapK_get (q : List Nat) : ∀ (ks : List T) (j i : Nat), (mapK q j ks)[i]? = ks[i]?.map (fun k => (q ++ [j + i], k.s))
  | [], _, _ => by simp [mapK]
  | k :: ks, j, 0 => by simp [mapK]
  | k :: ks, j, i + 1 => by
    rw [mapK, List.getElem?_cons_succ, mapK_get q ks (j + 1) i, List.getElem?_cons_succ]
    congr 2
    funext k
    congr 3
    omega
theorem mapK_length (q : List Nat) : ∀ (ks : List T) (j : Nat), (mapK q j ks).length = ks.length
  | [], _ => rfl
  | k :: ks, j => by simp [mapK, mapK_length q ks (j + 1)]
theorem rL_hit : ∀ {ks : List T} {l rest : List PS} {i : Nat} {k : T} {q : List Nat} {j0 : Nat}, ks[i]? = some k → (∀ (j : Nat) (x : T), j < i → ks[j]? = some x → wo l x.s = none) → wo l k.s = some rest → rL ks q j0 l = some (rI k (q ++ [j0 + i]) rest false)
  | a :: r, l, rest, 0, k, q, j0, h, _, hw => by
    simp at h
    subst h
    rw [rL, hw]
    rfl
  | a :: r, l, rest, i + 1, k, q, j0, h, hn, hw => by
    rw [rL, hn 0 a (by omega) rfl]
    simp only
    rw [rL_hit (ks := r) (i := i) (by simpa using h) (fun j x hj hx => hn (j + 1) x (by omega) (by simpa using hx)) hw]
    rw [show j0 + 1 + i = j0 + (i + 1) by omega]
theorem RepL.get {e : List En} {q : List Nat} : ∀ {ks : List T} {j i : Nat} {k : T}, RepL e q j ks → ks[i]? = some k → RepT e (q ++ [j + i]) k
  | a :: ks, j, 0, k, h, hk => by
    simp at hk
    subst hk
    rw [RepL] at h
    exact h.1
  | a :: ks, j, i + 1, k, h, hk => by
    rw [RepL] at h
    have := RepL.get (i := i) h.2 (by simpa using hk)
    rwa [show j + 1 + i = j + (i + 1) by omega] at this
theorem RepT.kids {e : List En} {q : List Nat} {t : T} (h : RepT e q t) : chL e q = mapK q 0 t.ks ∧ RepL e q 0 t.ks := by
  cases t with
  | nd s ks => rw [RepT] at h; exact ⟨h.1, h.2.2⟩
theorem RepT.kid {e : List En} {q : List Nat} {t k : T} {i : Nat} (h : RepT e q t) (hk : t.ks[i]? = some k) : RepT e (q ++ [i]) k := by
  have := RepL.get h.kids.2 hk
  rwa [Nat.zero_add] at this
theorem kids_len {u : List Nd} {q : List Nat} {t : T} (h : RepT (u.map en) q t) : (chI u q u.length).length = t.ks.length := by
  have := congrArg List.length (chI_all u q)
  rw [h.kids.1] at this
  simpa [mapK_length] using this
theorem kids_at {u : List Nd} {q : List Nat} {t k : T} {i : Nat} (h : RepT (u.map en) q t) (hk : t.ks[i]? = some k) : ∃ n x, (chI u q u.length)[i]? = some n ∧ u[n]? = some x ∧ x.p = q ++ [i] ∧ x.s = k.s := by
  have := congrArg (·[i]?) (chI_all u q)
  simp only [h.kids.1, List.getElem?_map, mapK_get, hk, Option.map_some, Nat.zero_add] at this
  cases hn : (chI u q u.length)[i]? with
  | none => rw [hn] at this; cases this
  | some n =>
    rw [hn] at this
    simp only [Option.map_some, Option.some.injEq] at this
    cases hx : u[n]? with
    | none => rw [hx] at this; cases this
    | some x =>
      rw [hx] at this
      simp only [Option.map_some, Option.some.injEq, en, Prod.mk.injEq] at this
      exact ⟨n, x, rfl, hx, this.1, this.2⟩
theorem rI_end {t : T} {q : List Nat} {l : List PS} {root : Bool} (h : (l.isEmpty || (!root && t.ks.isEmpty)) = true) : rI t q l root = [] := by
  cases t with
  | nd s ks => simp only [T.ks] at h; rw [rI, if_pos h]
theorem rI_down {t k : T} {q : List Nat} {l rest : List PS} {root : Bool} {i : Nat} (h : (l.isEmpty || (!root && t.ks.isEmpty)) = false) (hk : t.ks[i]? = some k) (hn : ∀ (j : Nat) (x : T), j < i → t.ks[j]? = some x → wo l x.s = none) (hw : wo l k.s = some rest) : rI t q l root = rI k (q ++ [i]) rest false := by
  cases t with
  | nd s ks =>
    rw [rI, if_neg (by simp only [T.ks] at h; rw [h]; simp)]
    rw [rL_hit (ks := ks) (j0 := 0) hk hn hw, Nat.zero_add]
    rfl
theorem rI_new {t : T} {q : List Nat} {l : List PS} {root : Bool} (h : (l.isEmpty || (!root && t.ks.isEmpty)) = false) (hn : ∀ (j : Nat) (x : T), t.ks[j]? = some x → wo l x.s = none) : rI t q l root = newN q t.ks.length l := by
  cases t with
  | nd s ks =>
    rw [rI, if_neg (by simp only [T.ks] at h; rw [h]; simp)]
    rw [rL_none ks q 0 l (insL_none fun k hk => by
      obtain ⟨j, hj⟩ := List.mem_iff_getElem?.1 hk
      exact hn j k hj)]
    rfl

/-- A rest comes back with its bounds. -/
theorem WoPost.view2 {l : List PS} {x : PS} {w w' : World} {e : Ending} {ad : Option Addr} (h : WoPost (wo l x) w e w') (hs : Sts w ad l) :
    Below w.heap.size w w' ∧ ((wo l x = none ∧ e = .returned (.tuple #[.slice none 0 0, .bool false])) ∨ ∃ r a c, wo l x = some r ∧ e = .returned (.tuple #[.slice a r.length c, .bool true]) ∧ Sts w' a r ∧ r.length ≤ c ∧ (a = none → c = 0) ∧ r.length ≤ l.length) := by
  obtain ⟨v, b, rfl, hb, hm⟩ := h
  refine ⟨hb, ?_⟩
  cases hw : wo l x with
  | none =>
    rw [hw] at hm
    obtain ⟨rfl, rfl⟩ := hm
    exact .inl ⟨rfl, rfl⟩
  | some r =>
    rw [hw] at hm
    obtain ⟨rfl, ho⟩ := hm
    obtain ⟨a, c, rfl, h1, _⟩ := own_val ho
    exact .inr ⟨r, a, c, rfl, rfl, ⟨row_own stC_len ho rfl, fun p hp => (hs.below hb).rd p (wo_sub hw p hp)⟩, h1, own_nilcap ho, wo_len hw⟩

theorem Row.keepB {α : Type} {n : Nat} {f : α → List Value} {w w' : World} {ad : Option Addr} {l : List α} (h : Row n f w ad l) (hw : ∀ b off, 0 < l.length → ad = some ⟨b, off, none⟩ → w'.heap[b]? = w.heap[b]?) : Row n f w' ad l := fun h0 => by
  exact (h.other fun b off e => hw b off h0 e) h0
/-- Nothing of the list lies below n. -/
def NdB (n : Nat) (ad : Option Addr) (u : List Nd) : Prop := (∀ b off, 0 < u.length → ad = some ⟨b, off, none⟩ → n ≤ b) ∧ ∀ x ∈ u, ∀ b off, 0 < x.p.length → x.ad = some ⟨b, off, none⟩ → n ≤ b
/-- The list as it grows. -/
structure NS (w : World) (n : Nat) (W : World) (v : Value) (u : List Nd) : Prop where
  below : Below w.heap.size w W
  own : W.ownsRow w.heap.size 95 5 v u.length (u.flatMap ndC)
  at' : ∀ x ∈ u, Row 1 natC W x.ad x.p ∧ ∀ b off, 0 < x.p.length → x.ad = some ⟨b, off, none⟩ → v.ownBlock ≠ some b
  len : ∀ x ∈ u, x.p.length ≤ 1000 ∧ x.p.length ≤ x.cap ∧ (x.ad = none → x.cap = 0)
  rd : ∀ x ∈ u, Rd w x.s
  lo : ∀ x ∈ u, ∀ b off, 0 < x.p.length → x.ad = some ⟨b, off, none⟩ → n ≤ b
theorem NS.then {w W V : World} {n : Nat} {v : Value} {u : List Nd} (h : NS w n W v u) (hb : Below W.heap.size W V) : NS w n V v u :=
  ⟨h.below.trans (hb.mono h.below.size), own_of_block h.own fun g hg => hb.block g (h.own.lt g hg).2, fun x hx => ⟨(h.at' x hx).1.below hb, (h.at' x hx).2⟩, h.len, h.rd, h.lo⟩
theorem NS.nds {w W : World} {n : Nat} {ad : Option Addr} {cap : Nat} {u : List Nd} (h : NS w n W (.slice ad u.length cap) u) : Nds W ad u := by
  exact ⟨row_own ndC_len h.own rfl, fun x hx => (h.at' x hx).1, h.len, fun x hx => (h.rd x hx).below h.below⟩
theorem NS.app {w W w5 : World} {n : Nat} {v v' : Value} {u : List Nd} {y : Nd} {o : Obj} (h : NS w n W v u) (hy : Row 1 natC W y.ad y.p) (hyb : ∀ b off, 0 < y.p.length → y.ad = some ⟨b, off, none⟩ → v.ownBlock ≠ some b) (hyl : y.p.length ≤ 1000 ∧ y.p.length ≤ y.cap ∧ (y.ad = none → y.cap = 0)) (hyr : Rd w y.s) (hyn : ∀ b off, 0 < y.p.length → y.ad = some ⟨b, off, none⟩ → n ≤ b)
    (hown : w5.ownsRow w.heap.size 95 5 v' (u.length + [y].length) (u.flatMap ndC ++ [y].flatMap ndC)) (hg : (W.alloc o).grownBy w5 v.ownBlock) (hat : v'.ownBlock = v.ownBlock ∨ v'.ownBlock = some (W.alloc o).heap.size) : NS w n w5 v' (u ++ [y]) := by
  have hA : ∀ b, b < W.heap.size → v.ownBlock ≠ some b → w5.heap[b]? = W.heap[b]? := fun b hb hne => by
    rw [hg.block b (by simp; omega) (fun e => hne e.symm)]
    exact Below.heap_alloc _ _ _ hb
  have hrow : ∀ x : Nd, Row 1 natC W x.ad x.p → (∀ b off, 0 < x.p.length → x.ad = some ⟨b, off, none⟩ → v.ownBlock ≠ some b) → Row 1 natC w5 x.ad x.p ∧ ∀ b off, 0 < x.p.length → x.ad = some ⟨b, off, none⟩ → v'.ownBlock ≠ some b := fun x hx hb => by
    have hlt : ∀ b off, 0 < x.p.length → x.ad = some ⟨b, off, none⟩ → b < W.heap.size := fun b off h0 e => by
      obtain ⟨b', off', e', ho, _⟩ := hx h0
      rw [e] at e'
      cases e'
      exact ho
    refine ⟨hx.keepB fun b off h0 e => hA b (hlt b off h0 e) (hb b off h0 e), fun b off h0 e => ?_⟩
    rcases hat with e' | e'
    · rw [e']; exact hb b off h0 e
    · rw [e']; have := hlt b off h0 e; intro e2; cases e2; simp at this; omega
  refine ⟨below_grown (h.below.alloc h.below.size o) hg (by have := h.below.size; simp; omega) (fun k e => (h.own.lt k e).1), ?_, fun x hx => ?_, fun x hx => ?_, fun x hx => ?_, fun x hx => ?_⟩
  · rw [List.length_append, List.flatMap_append]; exact hown
  · rcases List.mem_append.1 hx with hx | hx
    · exact hrow x (h.at' x hx).1 (h.at' x hx).2
    · rw [List.mem_singleton.1 hx]; exact hrow y hy hyb
  · rcases List.mem_append.1 hx with hx | hx
    · exact h.len x hx
    · rw [List.mem_singleton.1 hx]; exact hyl
  · rcases List.mem_append.1 hx with hx | hx
    · exact h.rd x hx
    · rw [List.mem_singleton.1 hx]; exact hyr
  · rcases List.mem_append.1 hx with hx | hx
    · exact h.lo x hx
    · rw [List.mem_singleton.1 hx]; exact hyn
/-- What Insert of the reference gives. -/
def InsR (n : Nat) (u : List Nd) (new : List En) (w : World) (e : Ending) (w' : World) : Prop := ∃ ad u' cap, e = .returned (.slice ad u'.length cap) ∧ u'.map en = u.map en ++ new ∧ Nds w' ad u' ∧ (ad = none → cap = 0) ∧ Below w.heap.size w w' ∧ NdB n ad u'
end Go.Proofs.Ytmgiojkdcpolfaa
