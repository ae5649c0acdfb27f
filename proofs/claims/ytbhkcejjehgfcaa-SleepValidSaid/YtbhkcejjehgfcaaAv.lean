/- slices.SortFunc over a slice of the walk's own, of elements of one cell; the comparison by its own contract. -/
import Derived.Test.YtbhkcejjehgfcaaAu
import Derived.Shelf.SlSortCmp.Whole1
namespace Go.Proofs.Ytbhkcejjehgfcaa
open Go.RowKit Go.Sort Go.Shelf
set_option linter.unusedSimpArgs false
set_option linter.unusedVariables false

theorem swo_comap {α β : Type} {lt : α → α → Bool} (h : SWO lt) (f : β → α) : SWO (fun x y => lt (f x) (f y)) := ⟨fun x => h.irrefl _, fun x y z => h.trans _ _ _, fun x y z => h.ntrans _ _ _⟩
def rowOf {α : Type} (pv : α → PV) (ks : List α) : List (List PV) := ks.map fun k => [pv k]
/-- No later one is less than an earlier one. -/
def SortedL {α : Type} (cf : α → α → Int) (ks : List α) : Prop := ks.Pairwise fun x y => ¬ cf y x < 0
theorem sort_mem {P : Program} {ρ : Ren} (S : SlLaysF.n6 P ρ) {α : Type} (pv : α → PV) (cf : α → α → Int) (hO : SWO (ltOf cf)) (g : Nat) (ks : List α) (hne : ks ≠ []) (hlen : ks.length < 4611686018427387904) (eg : Ent P g)
    (hcmp : ∀ x ∈ ks, ∀ y ∈ ks, PureC P g [.p (pv x), .p (pv y)] (.int (cf x y))) (N : Nat) (hp : Hp) (t e : Nat) (hlk : hp.lookup t = some (.row e 1 (rowOf pv ks))) :
    MemC P (ρ.f 6) N hp [.own t, .fn (.func g) []] fun hp' r => r = .tup [] ∧ ∃ ks' : List α, ks'.Perm ks ∧ SortedL cf ks' ∧ hp' = setHp hp t (.row e 1 (rowOf pv ks')) := fun L loc w vs hh hvs => by
  obtain ⟨htN, u, hu, hor⟩ := hh.at' t _ hlk
  obtain ⟨v0, v1, rfl⟩ : ∃ v0 v1, vs = [v0, v1] := by
    match vs, hvs.1 with
    | [v0, v1], _ => exact ⟨v0, v1, rfl⟩
  have a0 := hvs.2 0 _ v0 rfl rfl
  have a1 := hvs.2 1 _ v1 rfl rfl
  cases a0 with
  | own _ _ _ _ hv =>
  obtain rfl := hv u hu
  cases a1 with
  | fn _ _ cvs hl _ =>
  obtain rfl : cvs = #[] := Array.eq_empty_of_size_eq_zero (by simpa using hl)
  obtain ⟨flat, hown, hrn, hfl, hone⟩ := hor
  have hlr : (rowOf pv ks).length = ks.length := by simp [rowOf]
  have hk0 : 0 < ks.length := List.length_pos_iff.2 hne
  rw [hlr] at hown
  rcases hown.2 with ⟨_, h0⟩ | ⟨b, cap, cur, rfl, _, hg, hle, hmx, hcs, htk⟩
  · omega
  have hblt : b < w.heap.size := (Array.getElem?_eq_some_iff.1 hg).1
  have hfl1 : ∀ (i : Nat) (x : α), ks[i]? = some x → ∃ v, flat[i]? = some v ∧ PR (Dm L loc) w (pv x) v := fun i x hx => by
    obtain ⟨v, h1, h2⟩ := hfl i [pv x] 0 (pv x) (by simp [rowOf, hx]) rfl
    exact ⟨v, by simpa using h1, h2⟩
  have hflen : flat.length = ks.length := by have := hown.1; omega
  let A := Fin ks.length
  haveI : Inhabited A := ⟨⟨0, hk0⟩⟩
  let enc : A → Value := fun i => flat.getD i.1 undef
  have hencf : ∀ i : A, flat[i.1]? = some (enc i) := fun i => by
    have : i.1 < flat.length := by rw [hflen]; exact i.2
    simp only [enc, List.getD_eq_getElem?_getD, List.getElem?_eq_getElem this, Option.getD_some]
  have henc : ∀ i : A, PR (Dm L loc) w (pv (ks.get i)) (enc i) := fun i => by
    obtain ⟨v, h1, h2⟩ := hfl1 i.1 (ks.get i) (by simp)
    have := hencf i
    rw [h1] at this
    cases this
    exact h2
  let d : Array A := Array.ofFn id
  have hd : d.size = ks.length := by simp [d]
  have hdk : ∀ j (hj : j < ks.length), d[j]! = ⟨j, hj⟩ := fun j hj => by rw [getElem!_pos d j (by rw [hd]; exact hj)]; simp [d]
  have hbD : Dm L loc b := .inr ⟨t, _, hu, rfl⟩
  have hcur : ∀ i : A, cur[i.1]? = some (enc i) := fun i => by
    have h1 := hencf i
    rw [← htk, List.getElem?_take, if_pos (by have := i.2; omega)] at h1
    simpa using h1
  have hH : Holds enc w b 0 d := fun j hj => by
    rw [hd] at hj
    rw [hdk j hj, Nat.zero_add]
    refine ⟨?_, ?_⟩
    · rw [row_cells hg]; exact hcur ⟨j, hj⟩
    · simp [World.frozen?, hg]
  -- the worlds that the sort passes through
  have kpS : ∀ m (dk : Array A) os, Kp (fun k => k = b) w (sortWorld enc w b 0 m dk os) := fun m dk os => by
    refine ⟨rfl, rfl, rfl, ?_, fun k hk hne => ?_, Nat.le_add_right _ _⟩
    · simp [sortWorld, grow, putRow, mapBlock, Sort.ahead]
    · simp only [sortWorld, grow, putRow, mapBlock, Sort.ahead]
      rw [Array.getElem?_append_left (by simpa using hk), Array.getElem?_modify, if_neg (fun e => hne e.symm)]
  have hcl : CmpLays1 P g #[] enc (fun i j => cf (ks.get i) (ks.get j)) b 0 d.size w := fun m os dk hdk x y => by
    have kw := kpS m dk os
    have hx : PR (fun k => k = b) (sortWorld enc w b 0 m dk os) (pv (ks.get x)) (enc x) := (henc x).mono (kw.wide fun k e => e ▸ hbD) (fun k _ e => e ▸ hbD)
    have hy : PR (fun k => k = b) (sortWorld enc w b 0 m dk os) (pv (ks.get y)) (enc y) := (henc y).mono (kw.wide fun k e => e ▸ hbD) (fun k _ e => e ▸ hbD)
    have hc := hcmp _ (List.get_mem ks x) _ (List.get_mem ks y) (fun k => k = b) (sortWorld enc w b 0 m dk os) [enc x, enc y] (fun k e => by rw [e]; exact Nat.lt_of_lt_of_le hblt kw.size) ⟨rfl, fun j z v hz hv => by
      match j, hz, hv with
      | 0, hz, hv => cases hz; cases hv; exact .p _ _ hx
      | 1, hz, hv => cases hz; cases hv; exact .p _ _ hy⟩
    refine Calls.mono hc fun ee w' ⟨v, h1, h2, h3⟩ => ?_
    subst h1
    obtain ⟨p, hp⟩ := gm_of_below h2
    refine ⟨by rw [h3.val], p.d, p.os, hp⟩
  have h1c : Go.Proofs.OneCell enc := fun i => (henc i).one
  have hS := Any.slices_SortFunc S enc h1c _ (swo_comap hO fun i : A => ks.get i) g #[] b 0 cap d w eg hcl hH hblt (by rw [hd]; exact hlen)
  rw [show #[Value.slice (some ⟨b, 0, none⟩) d.size cap, .func (.func g) #[] #[]] = #[.slice (some ⟨b, 0, none⟩) ks.length cap, .func (.func g) #[] #[]] by rw [hd]] at hS
  refine Calls.mono hS ?_
  rintro ee w' ⟨rfl, d', m, os, hperm, hsort, rfl⟩
  have hd' : d'.size = ks.length := hperm.1.trans hd
  have kw := kpS m d' os
  have hPd : d'.toList.Perm d.toList := by
    have h := hperm.2.2
    rwa [show d'.extract 0 d.size = d' by rw [← hperm.1]; simp, show d.extract 0 d.size = d by simp] at h
  have hks : d.toList.map ks.get = ks := by
    apply List.ext_getElem (by simp [d])
    intro i h1 h2
    simp [d]
  have hrun : (sortWorld enc w b 0 m d' os).heap[b]? = some (.cells (putCells enc 0 d' cur) e (0, 0)) := by
    simp only [sortWorld, grow, putRow, mapBlock, Sort.ahead]
    rw [Array.getElem?_append_left (by simpa using hblt), Array.getElem?_modify, if_pos rfl, hg]
    rfl
  have hput : ∀ k, k < ks.length → (putCells enc 0 d' cur)[k]? = (d'.toList.map enc)[k]? := fun k hk => by
    have hc : k < cur.size := by omega
    have hkd : k < d'.size := by omega
    simp only [putCells, Array.getElem?_mapIdx, Array.getElem?_eq_getElem hc, Option.map_some, Nat.zero_le, Nat.zero_add, true_and, if_pos hkd, Nat.sub_zero, List.getElem?_map, Array.getElem?_toList, Array.getElem?_eq_getElem hkd, getElem!_pos d' k hkd]
  have hown' : (sortWorld enc w b 0 m d' os).ownsRow 0 e 1 (.slice (some ⟨b, 0, none⟩) ks.length cap) ks.length (d'.toList.map enc) := by
    refine ⟨by simp [hd'], .inr ⟨b, cap, _, rfl, Nat.zero_le _, hrun, hle, hmx, by simp only [putCells, Array.size_mapIdx]; exact hcs, ?_⟩⟩
    apply List.ext_getElem?
    intro k
    rw [List.getElem?_take]
    split
    · rw [Array.getElem?_toList]; exact hput k (by omega)
    · rw [List.getElem?_eq_none]; simp [hd']; omega
  have hD' : ∀ i : A, PR (Dm L loc) (sortWorld enc w b 0 m d' os) (pv (ks.get i)) (enc i) := fun i => (henc i).mono (kw.wide fun k e => e ▸ hbD) (fun _ _ h => h)
  have hor' : OR N (Dm L loc) loc (sortWorld enc w b 0 m d' os) (.slice (some ⟨b, 0, none⟩) ks.length cap) (.row e 1 (rowOf pv (d'.toList.map ks.get))) := by
    refine ⟨d'.toList.map enc, by simpa [rowOf, hd'] using hown', fun r hr => ?_, fun k r j x hk hx => ?_, fun v hv => ?_⟩
    · obtain ⟨y, _, rfl⟩ := List.mem_map.1 hr; rfl
    · simp only [rowOf, List.getElem?_map, Option.map_eq_some_iff] at hk
      obtain ⟨y, ⟨i, hi, rfl⟩, rfl⟩ := hk
      have hj : j = 0 := by have := (List.getElem?_eq_some_iff.1 hx).1; simp at this; exact this
      subst hj
      cases hx
      exact ⟨enc i, by simp [hi], hD' i⟩
    · obtain ⟨i, _, rfl⟩ := List.mem_map.1 hv; exact (henc i).one
  refine ⟨_, loc, _, _, rfl, ⟨rfl, d'.toList.map ks.get, ?_, ?_, rfl⟩, hh.turn hlk hu rfl kw hor', .tup [] #[] rfl (fun j x hx => by simp at hx), .turn hu rfl kw⟩
  · have := hPd.map ks.get
    rwa [hks] at this
  · refine List.pairwise_map.2 (List.pairwise_iff_getElem.2 fun i j hi hj hij => ?_)
    have h := hsort i j (Nat.zero_le _) hij (by simp at hj; omega)
    rw [getElem!_pos d' i (by simpa using hi), getElem!_pos d' j (by simpa using hj)] at h
    simpa [ltOf] using h
end Go.Proofs.Ytbhkcejjehgfcaa
