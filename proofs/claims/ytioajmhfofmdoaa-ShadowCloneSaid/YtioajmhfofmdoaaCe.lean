/- ShadowClone: three memories. -/
import Derived.Test.YtioajmhfofmdoaaCn
import Derived.Test.YtioajmhfofmdoaaSp
namespace Go.Proofs.Ytioajmhfofmdoaa
open Go.RowKit Go.Sort Go.Maps

theorem pgC_tok {m m' : Nat → Wd} {t t' : Nat} (h : pgC m t = pgC m' t') : t = t' := by
  have := congrArg (fun a => a[208]?) h
  simpa [pgC] using this
/-- Another memory's change. -/
theorem MemAt.fr {T : Nat → Prop} {B : Nat} {w w' : World} {bm bp tk n : Nat} {D : DataW Nat} {M : Int → Int → Wd} {t' bp' : Nat} (h : MemAt T B w bm bp tk n D M) (fr : Fr t' bp' w w') {es : Array MapEntry} {ck : Nat} (hm : w.heap[bp']? = some (.map es ck)) (hbp : bp ≠ bp') (hT : ¬ T t') : MemAt T B w' bm bp tk n D M := by
  obtain ⟨es2, ck2, hb2, rest2⟩ := h.own
  refine ⟨fr.row hm h.cell (by decide), ⟨es2, ck2, (fr.block bp (Array.getElem?_eq_some_iff.1 hb2).1 hbp (fun m e => by rw [hb2] at e; cases e)).trans hb2, rest2⟩, fun o p hp => ?_, h.apart, h.keys, h.tok, fun t ht => ?_, h.mine⟩
  · rcases h.page o p hp with h1 | ⟨b, t, h1, h2, h3, h4⟩
    · exact .inl h1
    · refine .inr ⟨b, t, h1, h2, (fr.block b (Array.getElem?_eq_some_iff.1 h3).1 (fun e => ?_) (fun m e => ?_)).trans h3, h4⟩
      · rw [e, hm] at h3; cases h3
      · rw [h3] at e
        simp only [Option.some.injEq, Obj.cells.injEq] at e
        have := pgC_tok e.1
        exact hT (this ▸ h2)
  · obtain ⟨c, hc⟩ := h.toks t ht
    exact ⟨c, fr.row hm hc (by decide)⟩
/-- A store into another memory's token. -/
theorem MemAt.but {T : Nat → Prop} {B : Nat} {w w' : World} {bm bp tk n : Nat} {D : DataW Nat} {M : Int → Int → Wd} {z : Nat} {c : Array Value} (h : MemAt T B w bm bp tk n D M) (hk : ∀ k, k < w.heap.size → k ≠ z → w'.heap[k]? = w.heap[k]?) (hz : w.heap[z]? = some (.cells c 62 (0, 0))) (hne : bm ≠ z) : MemAt T B w' bm bp tk n D M := by
  obtain ⟨es2, ck2, hb2, rest2⟩ := h.own
  have key : ∀ k o, w.heap[k]? = some o → (∀ c', o ≠ Obj.cells c' 62 (0, 0)) → w'.heap[k]? = some o := fun k o ho hne => by
    refine (hk k (Array.getElem?_eq_some_iff.1 ho).1 (fun e => ?_)).trans ho
    rw [e, hz] at ho
    cases ho
    exact hne _ rfl
  refine ⟨(hk bm (Array.getElem?_eq_some_iff.1 h.cell).1 hne).trans h.cell, ⟨es2, ck2, key _ _ hb2 (fun _ e => by cases e), rest2⟩, fun o p hp => ?_, h.apart, h.keys, h.tok, fun t ht => ?_, h.mine⟩
  · rcases h.page o p hp with h1 | ⟨b, t, h1, h2, h3, h4⟩
    · exact .inl h1
    · exact .inr ⟨b, t, h1, h2, key _ _ h3 (fun _ e => by simp only [Obj.cells.injEq] at e; exact absurd e.2.1 (by decide)), h4⟩
  · obtain ⟨c, hc⟩ := h.toks t ht
    exact ⟨c, key _ _ hc (fun _ e => by simp only [Obj.cells.injEq] at e; exact absurd e.2.1 (by decide))⟩
theorem EntT.but {w w' : World} {v : Value} {l : List Ent} (h : EntT w v l) {z : Nat} {c : Array Value} (hk : ∀ k, k < w.heap.size → k ≠ z → w'.heap[k]? = w.heap[k]?) (hs : w.heap.size ≤ w'.heap.size) (hz : w.heap[z]? = some (.cells c 62 (0, 0))) : EntT w' v l := by
  obtain ⟨⟨ad, cap, rfl, hr⟩, ht⟩ := h
  have key : ∀ b off, ad = some ⟨b, off, none⟩ → w'.heap[b]? = w.heap[b]? := fun b off e => by
    obtain ⟨c, z', hc⟩ := ht b off _ _ (by rw [e])
    refine hk b (Array.getElem?_eq_some_iff.1 hc).1 (fun e' => ?_)
    subst e'
    rw [hz] at hc
    simp only [Option.some.injEq, Obj.cells.injEq] at hc
    exact absurd hc.2.1 (by decide)
  refine ⟨⟨ad, cap, rfl, fun h0 => ?_⟩, fun b off n' cap' e => ?_⟩
  · obtain ⟨b, off, e, ho, hc⟩ := hr h0
    exact ⟨b, off, e, Nat.lt_of_lt_of_le ho hs, fun k hk i hi => (World.cell?_of_block (a := ⟨b, off + k * 15 + i, none⟩) (key b off e)).trans (hc k hk i hi)⟩
  · cases e
    obtain ⟨c, z, hc⟩ := ht b off _ _ rfl
    exact ⟨c, z, (key b off rfl).trans hc⟩
theorem Holds.fr {T : Nat → Prop} {B : Nat} {w w' : World} {bm bp tk n : Nat} {l : List Ent} {t' bp' : Nat} (h : Holds T B w bm bp tk n l) (fr : Fr t' bp' w w') {es : Array MapEntry} {ck : Nat} (hm : w.heap[bp']? = some (.map es ck)) (hbp : bp ≠ bp') (hT : ¬ T t') : Holds T B w' bm bp tk n l := by
  obtain ⟨D, M, h1, h2⟩ := h
  exact ⟨D, M, h1.fr fr hm hbp hT, h2⟩
theorem cloneH_any {T : Nat → Prop} {B : Nat} {w : World} {bm bp tk n : Nat} {l : List Ent} (h : Holds T B w bm bp tk n l) :
    Calls Try.prog 22 #[.pointer (some ⟨bm, 0, none⟩)] w fun e w' => ∃ bm2 bp2 tk1 tk2, e = .returned (.pointer (some ⟨bm2, 0, none⟩)) ∧
      (∀ k, k < w.heap.size → k ≠ bm → w'.heap[k]? = w.heap[k]?) ∧ Below B w w' ∧ Holds (fun t => T t ∨ t = tk1) B w' bm bp tk1 n l ∧ Holds (fun t => T t ∨ t = tk2) B w' bm2 bp2 tk2 n l ∧
      w.heap.size ≤ bm2 ∧ w.heap.size ≤ bp2 ∧ w.heap.size ≤ tk1 ∧ w.heap.size ≤ tk2 ∧ tk1 ≠ tk2 := by
  obtain ⟨D, M, h1, h2⟩ := h
  refine (cloneL_any h1).mono ?_
  rintro e w' ⟨bm2, bp2, tk1, tk2, rfl, a1, a2, a3, a4, a5⟩
  exact ⟨bm2, bp2, tk1, tk2, rfl, a1, a2, ⟨D, M, a3, h2⟩, ⟨D, M, a4, h2⟩, a5⟩

/-- What lies apart. -/
structure Apart3 (Tm Tx Ty : Nat → Prop) (bp bpx bpy t1 t3 : Nat) : Prop where
  mx : bp ≠ bpx
  my : bp ≠ bpy
  xy : bpx ≠ bpy
  x1 : ¬ Tx t1
  y1 : ¬ Ty t1
  m3 : ¬ Tm t3
  y3 : ¬ Ty t3
/-- Between two changes. -/
structure Run3 (w wr : World) (B : Nat) (Tm Tx Ty : Nat → Prop) (bm bp t1 bx bpx t3 by_ bpy t4 : Nat) (vu vv vn : Value) (k nm nx ny : Nat) (am au ax av l : List Ent) : Prop where
  hm : Holds Tm B wr bm bp t1 nm am
  hx : Holds Tx B wr bx bpx t3 nx ax
  hy : Holds Ty B wr by_ bpy t4 ny l
  eu : EntT wr vu au
  ev : EntT wr vv av
  en : EntT wr vn l
  gu : Good au
  gv : Good av
  gl : Good l
  fu : Fits au
  fv : Fits av
  fl : Fits l
  lu : au.length ≤ k
  lv : av.length ≤ k
  ll : l.length ≤ k
  cm : nm ≤ k
  cx : nx ≤ k
  cy : ny ≤ k
  below : Below w.heap.size w wr
  lo : w.heap.size ≤ B
  apart : Apart3 Tm Tx Ty bp bpx bpy t1 t3
section
variable {w wr : World} {B : Nat} {Tm Tx Ty : Nat → Prop} {bm bp t1 bx bpx t3 by_ bpy t4 : Nat} {vu vv vn : Value} {k nm nx ny : Nat} {am au ax av l : List Ent}
theorem Run3.of_below {w' : World} (h : Run3 w wr B Tm Tx Ty bm bp t1 bx bpx t3 by_ bpy t4 vu vv vn k nm nx ny am au ax av l) (hb : Below wr.heap.size wr w') : Run3 w w' B Tm Tx Ty bm bp t1 bx bpx t3 by_ bpy t4 vu vv vn k nm nx ny am au ax av l :=
  { h with hm := h.hm.below hb, hx := h.hx.below hb, hy := h.hy.below hb, eu := h.eu.below hb, ev := h.ev.below hb, en := h.en.below hb, below := h.below.trans (hb.mono h.below.size) }
theorem Run3.more {k' : Nat} (h : Run3 w wr B Tm Tx Ty bm bp t1 bx bpx t3 by_ bpy t4 vu vv vn k nm nx ny am au ax av l) (hk : k ≤ k') : Run3 w wr B Tm Tx Ty bm bp t1 bx bpx t3 by_ bpy t4 vu vv vn k' nm nx ny am au ax av l :=
  { h with lu := Nat.le_trans h.lu hk, lv := Nat.le_trans h.lv hk, ll := Nat.le_trans h.ll hk, cm := Nat.le_trans h.cm hk, cx := Nat.le_trans h.cx hk, cy := Nat.le_trans h.cy hk }
theorem Run3.stepM {w' : World} {nm' : Nat} {am' : List Ent} (h : Run3 w wr B Tm Tx Ty bm bp t1 bx bpx t3 by_ bpy t4 vu vv vn k nm nx ny am au ax av l) (hn : nm' ≤ nm + 1) (h2 : Holds Tm B w' bm bp t1 nm' am') (fr : Fr t1 bp wr w') (hb : Below B wr w') :
    Run3 w w' B Tm Tx Ty bm bp t1 bx bpx t3 by_ bpy t4 vu vv vn (k + 1) nm' nx ny am' au ax av l := by
  obtain ⟨es, ck, hmp⟩ := h.hm.isMap
  have h' := h.more (Nat.le_succ k)
  exact { h' with hm := h2, hx := h.hx.fr fr hmp (fun e => h.apart.mx e.symm) h.apart.x1, hy := h.hy.fr fr hmp (fun e => h.apart.my e.symm) h.apart.y1, eu := fr.ent hmp h.eu, ev := fr.ent hmp h.ev, en := fr.ent hmp h.en, cm := by have := h.cm; omega, below := h.below.trans (hb.mono h.lo) }
theorem Run3.stepX {w' : World} {nx' : Nat} {ax' : List Ent} (h : Run3 w wr B Tm Tx Ty bm bp t1 bx bpx t3 by_ bpy t4 vu vv vn k nm nx ny am au ax av l) (hn : nx' ≤ nx + 1) (h2 : Holds Tx B w' bx bpx t3 nx' ax') (fr : Fr t3 bpx wr w') (hb : Below B wr w') :
    Run3 w w' B Tm Tx Ty bm bp t1 bx bpx t3 by_ bpy t4 vu vv vn (k + 1) nm nx' ny am au ax' av l := by
  obtain ⟨es, ck, hmp⟩ := h.hx.isMap
  have h' := h.more (Nat.le_succ k)
  exact { h' with hx := h2, hm := h.hm.fr fr hmp h.apart.mx h.apart.m3, hy := h.hy.fr fr hmp (fun e => h.apart.xy e.symm) h.apart.y3, eu := fr.ent hmp h.eu, ev := fr.ent hmp h.ev, en := fr.ent hmp h.en, cx := by have := h.cx; omega, below := h.below.trans (hb.mono h.lo) }
theorem Run3.stepU {w' : World} {v' : Value} {o f : Int} {x : Wd} {d : Bool} (h : Run3 w wr B Tm Tx Ty bm bp t1 bx bpx t3 by_ bpy t4 vu vv vn k nm nx ny am au ax av l) (hb : Below wr.heap.size wr w') (he : EntT w' v' (doM au (chOf o f x d))) (ho : I64 o) (hf : I64 f) :
    Run3 w w' B Tm Tx Ty bm bp t1 bx bpx t3 by_ bpy t4 v' vv vn (k + 1) nm nx ny am (doM au (chOf o f x d)) ax av l := by
  have h' := (h.of_below hb).more (Nat.le_succ k)
  exact { h' with eu := he, gu := good_do h.gu _ _ _ _, fu := fits_do h.fu _ _ _ _ ho hf, lu := by have := h.lu; have := do_len (l := au) o f x d; omega }
theorem Run3.stepV {w' : World} {v' : Value} {o f : Int} {x : Wd} {d : Bool} (h : Run3 w wr B Tm Tx Ty bm bp t1 bx bpx t3 by_ bpy t4 vu vv vn k nm nx ny am au ax av l) (hb : Below wr.heap.size wr w') (he : EntT w' v' (doM av (chOf o f x d))) (ho : I64 o) (hf : I64 f) :
    Run3 w w' B Tm Tx Ty bm bp t1 bx bpx t3 by_ bpy t4 vu v' vn (k + 1) nm nx ny am au ax (doM av (chOf o f x d)) l := by
  have h' := (h.of_below hb).more (Nat.le_succ k)
  exact { h' with ev := he, gv := good_do h.gv _ _ _ _, fv := fits_do h.fv _ _ _ _ ho hf, lv := by have := h.lv; have := do_len (l := av) o f x d; omega }
end
/-- Where a change lies. -/
theorem OpsAt.cells {B0 : Nat} {w : World} {bo off n cap : Nat} {L : List OpT} (h : OpsAt B0 w (.slice (some ⟨bo, off, none⟩) n cap) L) {k : Nat} {e : OpT} (hk : L[k]? = some e) : Old bo w ∧ ∀ i, i < 16 → w.cell? ⟨bo, off + k * 16 + i, none⟩ = (opC e)[i]? := by
  obtain ⟨hlt, rfl⟩ := List.getElem?_eq_some_iff.1 hk
  obtain ⟨_, _, he, hr⟩ := h
  cases he
  obtain ⟨b, o, e, hB, ho, hc⟩ := hr (by omega)
  cases e
  exact ⟨ho, fun i hi => hc k hlt i hi⟩
theorem OpsAt.some {B0 : Nat} {w : World} {v : Value} {L : List OpT} (h : OpsAt B0 w v L) (h0 : 0 < L.length) : ∃ bo off cap, v = .slice (some ⟨bo, off, none⟩) L.length cap := by
  obtain ⟨ad, cap, rfl, hr⟩ := h
  obtain ⟨b, o, e, _⟩ := hr h0
  exact ⟨b, o, cap, by rw [e]⟩

end Go.Proofs.Ytioajmhfofmdoaa
