/- Remove: the lists of paths, and what the loop of the law holds. -/
import Derived.Test.YtmgiojkdcpolfaaRl
import Derived.Test.YtmgiojkdcpolfaaGg
namespace Go.Proofs.Ytmgiojkdcpolfaa
open Go.RowKit Go.Sort PT

theorem get_take {α : Type} {l : List α} {k : Nat} {p : α} (h : l[k]? = some p) : l.take (k + 1) = l.take k ++ [p] := by
  rw [List.take_add_one, h]; rfl
theorem wi_one (f : PS → Bool) (s : PS) (r : List PS) : wi f [s :: r] = if f s && decide (1 < (s :: r).length) then [r] else [] := by
  cases r with
  | nil => by_cases h : f s = true <;> simp [wi, h]
  | cons y r => by_cases h : f s = true <;> simp [wi, h]
theorem wt_one (f : PS → Bool) (s : PS) (r : List PS) : wt f [s :: r] = if f s then [] else [s :: r] := by
  by_cases h : f s = true <;> simp [wt, h]
theorem wt_len (f : PS → Bool) : ∀ ls : List (List PS), (wt f ls).length ≤ ls.length
  | [] => by simp [wt]
  | p :: ls => by
    rw [show wt f (p :: ls) = wt f [p] ++ wt f ls from wt_append f [p] ls, List.length_append, List.length_cons]
    have := wt_len f ls
    have : (wt f [p]).length ≤ 1 := by
      cases p with
      | nil => simp [wt]
      | cons s r => rw [wt_one]; split <;> simp
    omega
theorem wi_len (f : PS → Bool) : ∀ ls : List (List PS), (wi f ls).length ≤ ls.length
  | [] => by simp [wi]
  | p :: ls => by
    rw [show wi f (p :: ls) = wi f [p] ++ wi f ls from wi_append f [p] ls, List.length_append, List.length_cons]
    have := wi_len f ls
    have : (wi f [p]).length ≤ 1 := by
      cases p with
      | nil => simp [wi]
      | cons s r => rw [wi_one]; split <;> simp
    omega
theorem wt_lt (f : PS → Bool) {s : PS} {r : List PS} (hf : f s = true) : ∀ ls : List (List PS), (s :: r) ∈ ls → (wt f ls).length < ls.length
  | p :: ls, h => by
    rw [show wt f (p :: ls) = wt f [p] ++ wt f ls from wt_append f [p] ls, List.length_append, List.length_cons]
    rcases List.mem_cons.1 h with rfl | h
    · rw [wt_one, if_pos hf]
      have := wt_len f ls
      simp; omega
    · have := wt_lt f hf ls h
      have : (wt f [p]).length ≤ 1 := by
        cases p with
        | nil => simp [wt]
        | cons s r => rw [wt_one]; split <;> simp
      omega
theorem rm_wt {t : T} {x : PS} (hd : Dist (t.ks.map T.s)) : lvK [] (rmT t x).ks = wt (fun s => pk s x) (lvK [] t.ks) := by
  rw [wt_lvK]
  have h := pick_one (x := x) hd
  unfold rmT
  cases hf : (t.ks.map T.s).findIdx? (fun s => pk s x) with
  | none => rw [hf] at h; rw [h.2]
  | some i => rw [hf] at h; obtain ⟨k, _, _, _, h4⟩ := h; rw [h4]; rfl
theorem sub_wi {t : T} {x : PS} (hd : Dist (t.ks.map T.s)) : match subT t x with
    | some k => k ∈ t.ks ∧ pk k.s x = true ∧ lvK [] k.ks = wi (fun s => pk s x) (lvK [] t.ks) ∧ ∀ k' ∈ t.ks, pk k'.s x = true → k'.s = k.s
    | none => wi (fun s => pk s x) (lvK [] t.ks) = [] ∧ ∀ k' ∈ t.ks, pk k'.s x = false := by
  have h := pick_one (x := x) hd
  unfold subT
  cases hf : (t.ks.map T.s).findIdx? (fun s => pk s x) with
  | none =>
    rw [hf] at h
    refine ⟨by rw [wi_lvK, h.1]; rfl, fun k' hk => ?_⟩
    have := List.filter_eq_nil_iff.1 h.1 k' hk
    simpa using this
  | some i =>
    rw [hf] at h
    obtain ⟨k, h1, h2, h3, h4⟩ := h
    simp only [h1]
    refine ⟨List.mem_of_getElem? h1, h2, by rw [wi_lvK, h3]; simp, fun k' hk hp => ?_⟩
    have : k' ∈ t.ks.filter (fun k => pk k.s x) := List.mem_filter.2 ⟨hk, hp⟩
    rw [h3, List.mem_singleton] at this
    rw [this]
theorem eraseIdx_cnt : ∀ (ks : List T) (i : Nat), cntL (ks.eraseIdx i) ≤ cntL ks
  | [], _ => by simp [cntL]
  | k :: ks, 0 => by simp [cntL]
  | k :: ks, i + 1 => by have := eraseIdx_cnt ks i; simp [cntL]; omega
theorem rmT_cnt (t : T) (x : PS) : cnt (rmT t x) ≤ cnt t := by
  unfold rmT
  cases t with
  | nd s ks =>
    split
    · rename_i i _
      have := eraseIdx_cnt ks i
      simp only [cnt, T.ks]; omega
    · exact Nat.le_refl _
theorem mem_cnt : ∀ {ks : List T} {k : T}, k ∈ ks → cnt k ≤ cntL ks
  | k :: ks, _, h => by
    rcases List.mem_cons.1 h with rfl | h
    · simp [cntL]
    · have := mem_cnt h; simp [cntL]; omega
theorem subT_cnt {t k : T} {x : PS} (h : subT t x = some k) : cnt k ≤ cnt t := by
  unfold subT at h
  split at h
  · have := mem_cnt (List.mem_of_getElem? h); have := cnt_ks t; omega
  · cases h

theorem lvT_in {ks : List T} {k : T} {p : List PS} (h : k ∈ ks) (hp : p ∈ lvT [] k) : p ∈ lvK [] ks := by
  induction ks with
  | nil => cases h
  | cons y r ih =>
    rw [lvK]
    rcases List.mem_cons.1 h with rfl | h
    · exact List.mem_append.2 (.inl hp)
    · exact List.mem_append.2 (.inr (ih h))

theorem Row.below' {α : Type} {n : Nat} {f : α → List Value} {w w' : World} {ad : Option Addr} {l : List α} (h : Row n f w ad l) (hb : Below w.heap.size w w') : Row n f w' ad l := h.below hb

/-- Paths with their room. -/
structure PthC (w : World) (ad : Option Addr) (ps : List PA) : Prop where
  p : Pths w ad ps
  cap : ∀ q ∈ ps, q.l.length ≤ q.cap
theorem PthC.below {w w' : World} {ad : Option Addr} {ps : List PA} (h : PthC w ad ps) (hb : Below w.heap.size w w') : PthC w' ad ps := ⟨h.p.below hb, h.cap⟩
theorem pathsC_any (W0 w : World) (t : PT) (hL : Lies W0 w t) (hW : Below W0.heap.size W0 w) (hm : cnt (sh t) ≤ 900) :
    Calls Try.prog 13 #[trV t] w fun e w' => ∃ (ad : Option Addr) (ps : List PA) (cap : Nat), e = .returned (.slice ad ps.length cap) ∧ ps.map PA.l = lvK [] (sh t).ks ∧ PthC w' ad ps ∧ ∃ q : Regrown, w' = gw w q := by
  have h1 := lvK_len [] (sh t).ks
  have h2 := cnt_ks (sh t)
  refine (pathsP_any W0 w t hL hW (by rw [nodes_cnt]; exact hm) (by rw [← ks_sh]; omega)).mono ?_
  rintro e w' ⟨v, ps, q, h1, h2, h3, h4, h5⟩
  obtain ⟨ad, cap, rfl, _, _⟩ := own_val h4
  have hb : Below W0.heap.size W0 w' := hW.trans (by rw [h2]; exact (gw_below w q).mono hW.size)
  have hl : ∀ p ∈ ps, p.l.length ≤ 1000 := fun p hp => by
    have hp' : p.l ∈ lvK [] (sh t).ks := by rw [ks_sh, ← h3]; exact List.mem_map_of_mem hp
    have := (lvK_path [] (sh t).ks _ hp').1
    simp at this; omega
  exact ⟨ad, ps, cap, h1, by rw [h3, ks_sh], ⟨⟨row_own paC_len h4 rfl, fun x hx => ⟨⟨(h5 x hx).1, fun s hs => ((h5 x hx).2.2.2 s hs).below hb⟩, hl x hx⟩⟩, fun x hx => (h5 x hx).2.1⟩, q, h2⟩

/-- A list of paths that is being collected. -/
structure Hv (Y wr : World) (v : Value) (l : List PA) (ls : List (List PS)) : Prop where
  own : wr.ownsRow Y.heap.size 41 1 v l.length (l.flatMap paC)
  eq : l.map PA.l = ls
  at' : ∀ q ∈ l, Sts Y q.ad q.l ∧ q.l.length ≤ 1000
/-- What the loop holds. -/
structure RS (Y wr : World) (vw vo : Value) (lw lo : List PA) (a b : List (List PS)) : Prop where
  below : Below Y.heap.size Y wr
  w : Hv Y wr vw lw a
  o : Hv Y wr vo lo b
  ap : ∀ k, vw.ownBlock = some k → vo.ownBlock ≠ some k
theorem RS.start (Y : World) : RS Y Y (.slice none 0 0) (.slice none 0 0) [] [] [] [] :=
  ⟨Below.refl _ _, ⟨World.ownsRow_nil _ _ _ _, rfl, fun _ h => by cases h⟩, ⟨World.ownsRow_nil _ _ _ _, rfl, fun _ h => by cases h⟩, by simp [Value.ownBlock]⟩
theorem RS.gw {Y wr : World} {vw vo : Value} {lw lo : List PA} {a b : List (List PS)} (h : RS Y wr vw vo lw lo a b) (q : Regrown) : RS Y (gw wr q) vw vo lw lo a b :=
  ⟨below_gw h.below h.below.size q, ⟨own_gw h.w.own q, h.w.eq, h.w.at'⟩, ⟨own_gw h.o.own q, h.o.eq, h.o.at'⟩, h.ap⟩
theorem RS.swap {Y wr : World} {vw vo : Value} {lw lo : List PA} {a b : List (List PS)} (h : RS Y wr vw vo lw lo a b) : RS Y wr vo vw lo lw b a := ⟨h.below, h.o, h.w, fun k e e' => h.ap k e' e⟩
theorem RS.len {Y wr : World} {vw vo : Value} {lw lo : List PA} {f : PS → Bool} {ls : List (List PS)} {k : Nat} (h : RS Y wr vw vo lw lo (wi f (ls.take k)) (wt f (ls.take k))) : lw.length ≤ k ∧ lo.length ≤ k := by
  have h1 := congrArg List.length h.w.eq
  have h2 := congrArg List.length h.o.eq
  simp only [List.length_map] at h1 h2
  have h3 := wi_len f (ls.take k)
  have h4 := wt_len f (ls.take k)
  have := List.length_take_le k ls
  omega
theorem Sts.tail {W : World} {b off c : Nat} {s : PS} {r : List PS} (h : Sts W (some ⟨b, off, none⟩) (s :: r)) (hc : (s :: r).length ≤ c) (h1 : 1 < (s :: r).length) : Sts W (some ⟨b, off + 4, none⟩) r := by
  have h2 := h.row.drop 1 hc
  rw [if_neg (by omega)] at h2
  exact ⟨h2, fun p hp => h.rd p (List.mem_cons.2 (.inr hp))⟩
theorem RS.app {Y wr w5 : World} {vw vo v' : Value} {lw lo : List PA} {a b : List (List PS)} (h : RS Y wr vw vo lw lo a b) {q : PA} {t : TypeId} (hq : Sts Y q.ad q.l ∧ q.l.length ≤ 1000)
    (hown : w5.ownsRow Y.heap.size 41 1 v' (lw.length + [q].length) (lw.flatMap paC ++ [q].flatMap paC)) (hg : (wr.alloc (.cells #[paV q] t)).grownBy w5 vw.ownBlock)
    (hat : v'.ownBlock = vw.ownBlock ∨ v'.ownBlock = some (wr.alloc (.cells #[paV q] t)).heap.size) : RS Y w5 v' vo (lw ++ [q]) lo (a ++ [q.l]) b := by
  have hb1 : Below Y.heap.size Y (wr.alloc (.cells #[paV q] t)) := h.below.alloc h.below.size _
  refine ⟨below_grown hb1 hg hb1.size (fun k e => (h.w.own.lt k e).1), ⟨by rw [List.length_append, List.flatMap_append]; exact hown, by rw [List.map_append, h.w.eq]; rfl, fun x hx => ?_⟩, ⟨?_, h.o.eq, h.o.at'⟩, ?_⟩
  · rcases List.mem_append.1 hx with hx | hx
    · exact h.w.at' x hx
    · rw [List.mem_singleton.1 hx]; exact hq
  · refine own_of_block (own_alloc' h.o.own _) fun g hgg => hg.block g ?_ (fun e => h.ap g e.symm hgg)
    have := (h.o.own.lt g hgg).2
    simp; omega
  · intro k hk e
    rcases hat with e' | e'
    · exact h.ap k (by rw [← e', hk]) e
    · rw [hk] at e'
      cases e'
      have := (h.o.own.lt _ e).2
      simp at this
      omega
end Go.Proofs.Ytmgiojkdcpolfaa
