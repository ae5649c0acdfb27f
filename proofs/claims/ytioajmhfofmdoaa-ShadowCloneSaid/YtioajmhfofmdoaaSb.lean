/- Set of the given memory: what has turned; the memory behind it. -/
import Derived.Test.YtioajmhfofmdoaaSa
import Derived.Test.YtioajmhfofmdoaaRg
namespace Go.Proofs.Ytioajmhfofmdoaa
open Go.RowKit Go.Sort Go.Maps

/-- Nothing has turned but the map of block bp and pages that bear token tk. -/
structure Fr (tk bp : Nat) (w w' : World) : Prop where
  os : w'.os = w.os
  tape : w'.tape = w.tape
  output : w'.output = w.output
  size : w.heap.size ≤ w'.heap.size
  block : ∀ k, k < w.heap.size → k ≠ bp → (∀ m, w.heap[k]? ≠ some (.cells (pgC m tk) 70 (0, 0))) → w'.heap[k]? = w.heap[k]?
theorem Fr.of_below {tk bp : Nat} {w w' : World} (h : Below w.heap.size w w') : Fr tk bp w w' := ⟨h.os, h.tape, h.output, h.size, fun k hk _ _ => h.block k hk⟩
theorem Fr.trans {tk bp : Nat} {a b c : World} (h : Fr tk bp a b) (k : Fr tk bp b c) : Fr tk bp a c :=
  ⟨k.os.trans h.os, k.tape.trans h.tape, k.output.trans h.output, Nat.le_trans h.size k.size, fun i hi h1 h2 => by
    have := h.block i hi h1 h2
    exact (k.block i (Nat.lt_of_lt_of_le hi h.size) h1 (fun m => by rw [this]; exact h2 m)).trans this⟩
theorem Fr.ent {tk bp : Nat} {w w' : World} (h : Fr tk bp w w') {es : Array MapEntry} {ck : Nat} (hbp : w.heap[bp]? = some (.map es ck)) {v : Value} {l : List Ent} (he : EntT w v l) : EntT w' v l := by
  obtain ⟨⟨ad, cap, rfl, hr⟩, ht⟩ := he
  have key : ∀ b off, ad = some ⟨b, off, none⟩ → b < w.heap.size ∧ w'.heap[b]? = w.heap[b]? := fun b off e => by
    obtain ⟨c, z, hc⟩ := ht b off _ _ (by rw [e])
    refine ⟨(Array.getElem?_eq_some_iff.1 hc).1, h.block b (Array.getElem?_eq_some_iff.1 hc).1 (fun e' => ?_) fun m e' => ?_⟩
    · subst e'; rw [hc] at hbp; cases hbp
    · rw [hc] at e'
      simp only [Option.some.injEq, Obj.cells.injEq] at e'
      exact absurd e'.2.1 (by decide)
  refine ⟨⟨ad, cap, rfl, fun h0 => ?_⟩, fun b off n' cap' e => ?_⟩
  · obtain ⟨b, off, e, ho, hc⟩ := hr h0
    obtain ⟨h1, h2⟩ := key b off e
    exact ⟨b, off, e, Nat.lt_of_lt_of_le h1 h.size, fun k hk i hi => (World.cell?_of_block (a := ⟨b, off + k * 15 + i, none⟩) h2).trans (hc k hk i hi)⟩
  · obtain ⟨c, z, hc⟩ := ht b off n' cap' e
    cases e
    exact ⟨c, z, (key b off rfl).2.trans hc⟩
/-- A word set. -/
def updM (M : Int → Int → Wd) (o f : Int) (x : Wd) : Int → Int → Wd := fun o' f' => if o' = o ∧ f' = f then x else M o' f'

theorem all_zero {m : Nat → Wd} (h : ((List.range 16).all fun j => wdE (m j) wz) = true) (j : Nat) (hj : j < 16) : wv (m j) = wv wz := by
  rw [List.all_eq_true] at h
  exact (wdE_iff _ _).1 (h j (List.mem_range.2 hj))
theorem not_zero {m : Nat → Wd} (h : ((List.range 16).all fun j => wdE (m j) wz) = false) : ∃ j : Nat, j < 16 ∧ zeroM (m j) = false := by
  rw [List.all_eq_false] at h
  obtain ⟨j, hj, e⟩ := h
  exact ⟨j, List.mem_range.1 hj, by simpa [zeroM] using e⟩
theorem upd_here (M : Int → Int → Wd) (o : Int) (p i : Nat) (x : Wd) (hi : i < 16) (j : Nat) (_ : j < 16) : updM M o ((p * 16 + i : Nat) : Int) x o ((p * 16 + j : Nat) : Int) = updP (fun j => M o ((p * 16 + j : Nat) : Int)) i x j := by
  unfold updM updP
  by_cases e : j = i
  · subst e; simp
  · rw [if_neg (by simp; omega), if_neg e]
theorem upd_else (M : Int → Int → Wd) (o o' : Int) (p p' i j : Nat) (x : Wd) (hi : i < 16) (hj : j < 16) (hne : ¬ (o' = o ∧ p' = p)) : updM M o ((p * 16 + i : Nat) : Int) x o' ((p' * 16 + j : Nat) : Int) = M o' ((p' * 16 + j : Nat) : Int) := by
  unfold updM
  rw [if_neg (by rintro ⟨rfl, e⟩; exact hne ⟨rfl, by omega⟩)]

theorem set_done {T : Nat → Prop} {B : Nat} {w w4 wr : World} {bm bp tk n n' pb p i : Nat} {D D' : DataW Nat} {M : Int → Int → Wd} {o : Int} {x : Wd} (h : MemAt T B w bm bp tk n D M) (hpg : Pg o p) (hi : i < 16)
    (hb : Below w.heap.size w w4) (st : PgSt w4 wr bp pb (updP (fun j => M o ((p * 16 + j : Nat) : Int)) i x) tk n' D')
    (hpb : (D.atKey (kyl o p) .nil = .held pb ∧ w.heap[pb]? = some (.cells (pgC (fun j => M o ((p * 16 + j : Nat) : Int)) tk) 70 (0, 0))) ∨ w.heap.size ≤ pb)
    (hD : D' = if ((List.range 16).all fun j => wdE (updP (fun j => M o ((p * 16 + j : Nat) : Int)) i x j) wz) then (D.put (kyl o p) (.held pb)).del (kyl o p) else D.put (kyl o p) (.held pb)) :
    MemAt T B wr bm bp tk n' D' (updM M o ((p * 16 + i : Nat) : Int) x) ∧ Fr tk bp w wr ∧ Below B w wr := by
  have hmap := h.own.isMap
  obtain ⟨m1, m2, m3, m4, m5⟩ := h.mine
  have hbm := (Array.getElem?_eq_some_iff.1 h.cell).1
  have hbp := h.own.lt
  have hsz := hb.size
  have hpbm : pb ≠ bm ∧ pb ≠ bp ∧ B ≤ pb := by
    rcases hpb with ⟨hd, _⟩ | hge
    · have := m5 o p pb hpg hd; omega
    · refine ⟨by omega, by omega, by omega⟩
  have keep : ∀ k, k < w.heap.size → k ≠ bp → k ≠ pb → wr.heap[k]? = w.heap[k]? := fun k hk h1 h2 => (st.block k (by omega) h1 h2).trans (hb.block k hk)
  have hat : ∀ (o' : Int) (p' : Nat), Pg o' p' → ¬ (o' = o ∧ p' = p) → D'.atKey (kyl o' p') .nil = D.atKey (kyl o' p') .nil := fun o' p' hp' hne => by
    rw [hD]
    split
    · rw [at_del hpg hp', if_neg hne, at_put hmap hpg hp', if_neg hne]
    · rw [at_put hmap hpg hp', if_neg hne]
  have hat2 : D'.atKey (kyl o p) .nil = if ((List.range 16).all fun j => wdE (updP (fun j => M o ((p * 16 + j : Nat) : Int)) i x j) wz) then .nil else .held pb := by
    rw [hD]
    split
    · rw [at_del hpg hpg, if_pos ⟨rfl, rfl⟩]
    · rw [at_put hmap hpg hpg, if_pos ⟨rfl, rfl⟩]
  have other : ∀ (o' : Int) (p' b' : Nat), Pg o' p' → ¬ (o' = o ∧ p' = p) → D.atKey (kyl o' p') .nil = .held b' → b' ≠ pb ∧ b' < w.heap.size := fun o' p' b' hp' hne hd => by
    have hlt : b' < w.heap.size := by
      rcases h.page o' p' hp' with ⟨hn, _⟩ | ⟨b2, t2, hd2, _, hrow, _⟩
      · rw [hd] at hn; cases hn
      · rw [hd] at hd2; cases hd2; exact (Array.getElem?_eq_some_iff.1 hrow).1
    refine ⟨fun e => ?_, hlt⟩
    subst e
    rcases hpb with ⟨hd2, _⟩ | hge
    · exact hne (h.apart o' o p' p b' hp' hpg hd hd2)
    · omega
  refine ⟨⟨?_, st.own, ?_, ?_, ?_, h.tok, ?_, ?_⟩, ?_, ?_⟩
  · rw [keep bm hbm m4 (Ne.symm hpbm.1)]; exact h.cell
  · intro o' p' hp'
    by_cases hne : o' = o ∧ p' = p
    · obtain ⟨rfl, rfl⟩ := hne
      cases hz : ((List.range 16).all fun j => wdE (updP (fun j => M o' ((p' * 16 + j : Nat) : Int)) i x j) wz)
      · rw [hz] at hat2
        obtain ⟨j, hj, e⟩ := not_zero hz
        refine .inr ⟨pb, tk, by simpa using hat2, h.tok, ?_, j, hj, by rw [upd_here _ _ _ _ _ hi _ hj]; exact e⟩
        rw [pgC_congr (fun j hj => by rw [upd_here _ _ _ _ _ hi _ hj])]
        exact st.row
      · rw [hz] at hat2
        exact .inl ⟨by simpa using hat2, fun j hj => by rw [upd_here _ _ _ _ _ hi _ hj]; exact all_zero hz j hj⟩
    · rw [hat o' p' hp' hne]
      rcases h.page o' p' hp' with ⟨hn, hzz⟩ | ⟨b', t', hd, ht, hrow, j, hj, hnz⟩
      · exact .inl ⟨hn, fun j hj => by rw [upd_else _ _ _ _ _ _ _ _ hi hj hne]; exact hzz j hj⟩
      · obtain ⟨h1, h2⟩ := other o' p' b' hp' hne hd
        refine .inr ⟨b', t', hd, ht, ?_, j, hj, by rw [upd_else _ _ _ _ _ _ _ _ hi hj hne]; exact hnz⟩
        rw [keep b' h2 (m5 o' p' b' hp' hd).2.2 h1, pgC_congr (fun j hj => by rw [upd_else _ _ _ _ _ _ _ _ hi hj hne])]
        exact hrow
  · intro o1 o2 p1 p2 b hp1 hp2 h1 h2
    by_cases e1 : o1 = o ∧ p1 = p <;> by_cases e2 : o2 = o ∧ p2 = p
    · exact ⟨by omega, by omega⟩
    · obtain ⟨rfl, rfl⟩ := e1
      rw [hat2] at h1
      rw [hat o2 p2 hp2 e2] at h2
      split at h1
      · cases h1
      · cases h1
        exact absurd rfl (other o2 p2 pb hp2 e2 h2).1
    · obtain ⟨rfl, rfl⟩ := e2
      rw [hat2] at h2
      rw [hat o1 p1 hp1 e1] at h1
      split at h2
      · cases h2
      · cases h2
        exact absurd rfl (other o1 p1 pb hp1 e1 h1).1
    · rw [hat o1 p1 hp1 e1] at h1
      rw [hat o2 p2 hp2 e2] at h2
      exact h.apart o1 o2 p1 p2 b hp1 hp2 h1 h2
  · intro kl hk
    by_cases e : kl = kyl o p
    · subst e
      refine ⟨o, p, pb, hpg, rfl, ?_⟩
      rw [hat2]
      rw [hD] at hk
      split at hk
      · rw [has_del_same] at hk; cases hk
      · rename_i hz; rw [if_neg hz]
    · have hk2 : Maps.has D kl = true := by
        rw [hD] at hk
        split at hk
        · rwa [has_del_other e, has_put_other e] at hk
        · rwa [has_put_other e] at hk
      obtain ⟨o', p', b', hp', rfl, hb'⟩ := h.keys kl hk2
      exact ⟨o', p', b', hp', rfl, by rw [hat o' p' hp' (fun e' => e (by rw [e'.1, e'.2]))]; exact hb'⟩
  · intro t ht
    obtain ⟨c, hc⟩ := h.toks t ht
    refine ⟨c, (keep t (Array.getElem?_eq_some_iff.1 hc).1 (fun e => ?_) fun e => ?_).trans hc⟩
    · obtain ⟨es, ck, hb2, _⟩ := h.own
      rw [e, hb2] at hc; cases hc
    · rcases hpb with ⟨_, hrow⟩ | hge
      · rw [e, hrow] at hc
        simp only [Option.some.injEq, Obj.cells.injEq] at hc
        exact absurd hc.2.1 (by decide)
      · have := (Array.getElem?_eq_some_iff.1 hc).1; omega
  · refine ⟨m1, m2, m3, m4, fun o' p' b hp' hd => ?_⟩
    by_cases e1 : o' = o ∧ p' = p
    · obtain ⟨rfl, rfl⟩ := e1
      rw [hat2] at hd
      split at hd
      · cases hd
      · cases hd
        exact ⟨hpbm.2.2, hpbm.1, hpbm.2.1⟩
    · rw [hat o' p' hp' e1] at hd
      exact m5 o' p' b hp' hd
  · refine ⟨st.os.trans hb.os, st.tape.trans hb.tape, st.output.trans hb.output, by have := st.size; omega, fun k hk h1 h2 => keep k hk h1 fun e => ?_⟩
    subst e
    rcases hpb with ⟨_, hrow⟩ | hge
    · exact h2 _ hrow
    · omega
  · exact ⟨st.os.trans hb.os, st.tape.trans hb.tape, st.output.trans hb.output, by have := st.size; omega, fun k hk => keep k (by omega) (by omega) (by omega)⟩

end Go.Proofs.Ytioajmhfofmdoaa
