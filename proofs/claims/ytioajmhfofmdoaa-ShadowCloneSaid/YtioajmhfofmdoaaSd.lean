/- slices.SortedFunc over maps.Keys. -/
import Derived.Test.YtioajmhfofmdoaaCo
import Derived.Shelf.SlSortCmp.NoneTotal
namespace Go.Proofs.Ytioajmhfofmdoaa
open Go.RowKit Go.Sort Go.Maps Go.Shelf

def ltP (a b : Int × Int) : Prop := a.1 < b.1 ∨ a.1 = b.1 ∧ a.2 < b.2
structure SortedKeys (D0 : DataW Nat) (ps : List (Int × Int)) : Prop where
  mem : ∀ q, q ∈ ps ↔ ∃ x : KeyT, x.1 = q ∧ Maps.has D0 (keyL' x) = true
  sorted : ps.Pairwise ltP
def KeyRow (B : Nat) (w : World) (v : Value) (ps : List (Int × Int)) : Prop :=
  ∃ ad cap, v = .slice ad ps.length cap ∧ (0 < ps.length → ∃ g c z, ad = some ⟨g, 0, none⟩ ∧ B ≤ g ∧ w.heap[g]? = some (.cells c 67 z) ∧ ∀ k (h : k < ps.length) i, i < 2 → c[k * 2 + i]? = (encK ps[k])[i]?)
theorem kCells_at : ∀ (xs : List KeyT) (k : Nat) (h : k < xs.length) (i : Nat), i < 2 → (kCells xs)[k * 2 + i]? = (encK xs[k].1)[i]?
  | x :: r, 0, _, i, hi => by
    simp only [kCells, List.flatMap_cons, Nat.zero_mul, Nat.zero_add, List.getElem_cons_zero]
    rw [List.getElem?_append_left (by simpa [encK] using hi)]
  | x :: r, k + 1, h, i, hi => by
    have := kCells_at r k (by simpa using h) i hi
    simp only [kCells, List.flatMap_cons, List.getElem_cons_succ] at this ⊢
    rw [List.getElem?_append_right (by simp [encK]; omega), show (k + 1) * 2 + i - (encK x.1).length = k * 2 + i by simp [encK]; omega]
    exact this
theorem holds_of_own {w : World} {B g cap : Nat} {xs : List KeyT} (h : w.ownsRow B 67 2 (.slice (some ⟨g, 0, none⟩) xs.length cap) xs.length (kCells xs)) : HoldsK encK 2 w g 0 (xs.map (·.1)).toArray := by
  have hfz : ∀ j, w.frozen? ⟨g, j, none⟩ = false := fun j => by
    rcases h.2 with ⟨e, _⟩ | ⟨g', cap', cur, e, _, hg, _⟩
    · cases e
    · cases e
      simp [World.frozen?, hg]
  intro j hj
  have hj' : j < xs.length * 2 := by simpa using hj
  refine ⟨?_, by rw [Nat.zero_add]; exact hfz j⟩
  have hk := kCells_at xs (j / 2) (by omega) (j % 2) (by omega)
  rw [show j / 2 * 2 + j % 2 = j by omega] at hk
  have hu : (encK xs[j / 2].1)[j % 2]? = some ((encK xs[j / 2].1)[j % 2]!) := by
    have : j % 2 < (encK xs[j / 2].1).length := by simp [encK]; omega
    rw [getElem!_pos (encK xs[j / 2].1) (j % 2) this, List.getElem?_eq_getElem this]
  rw [Nat.zero_add, own_cell h (hk.trans hu), get_flatK _ _ _ _ (by simpa using hj')]
  simp only [id]
  rw [getElem!_pos (xs.map (·.1)).toArray (j / 2) (by simp; omega)]
  simp
theorem seqd {xs : List KeyT} {D0 : DataW Nat} (hk : KeysOf D0 xs) {ks' : Array (Int × Int)} (hp : PermIn 0 (xs.map (·.1)).toArray.size (xs.map (·.1)).toArray ks') (hs : SortedIn (ltOf cmpK) 0 (xs.map (·.1)).toArray.size ks') : SortedKeys D0 ks'.toList := by
  obtain ⟨h1, _, h3⟩ := hp
  have h3 : ks'.toList.Perm (xs.map (·.1)) := by
    have e1 : ks'.extract 0 (xs.map (·.1)).toArray.size = ks' := by rw [← h1]; exact Array.extract_size ..
    have e2 : (xs.map (·.1)).toArray.extract 0 (xs.map (·.1)).toArray.size = (xs.map (·.1)).toArray := Array.extract_size ..
    rw [e1, e2] at h3
    exact h3
  have hnd : ks'.toList.Nodup := by
    refine h3.nodup_iff.2 ?_
    rw [List.nodup_iff_pairwise_ne, List.pairwise_map]
    exact hk.apart.imp fun {x y} hne e => hne (by unfold keyL'; rw [e])
  refine ⟨fun q => ?_, ?_⟩
  · rw [h3.mem_iff, List.mem_map]
    constructor
    · rintro ⟨x, hx, rfl⟩; exact ⟨x, rfl, hk.only x hx⟩
    · rintro ⟨x, rfl, hx⟩
      obtain ⟨y, hy, e⟩ := hk.all _ hx
      have := kyl_inj y.2.1 y.2.2 x.2.1 x.2.2 e
      exact ⟨y, hy, Prod.ext this.1 this.2⟩
  · rw [List.pairwise_iff_getElem]
    rw [List.nodup_iff_pairwise_ne, List.pairwise_iff_getElem] at hnd
    intro i j hi hj hij
    have hj' : j < ks'.size := by simpa using hj
    have hi' : i < ks'.size := by simpa using hi
    have := hs i j (Nat.zero_le _) hij (by rw [← h1]; exact hj')
    rw [getElem!_pos ks' j hj', getElem!_pos ks' i hi', cmpK_lt] at this
    have hne := hnd i j hi hj hij
    simp at this hne
    unfold ltP
    simp
    have : ¬ (ks'[i].1 = ks'[j].1 ∧ ks'[i].2 = ks'[j].2) := fun h => hne (Prod.ext h.1 h.2)
    omega

theorem sortNil_any (w : World) : Calls Try.prog 36 #[.slice none 0 0, .func (.func 29) #[] #[]] w fun e w' => e = .returned (.tuple #[]) ∧ w' = w :=
  AnyF.slices_SortFunc_none sortK none 0 _ w

set_option maxHeartbeats 1000000 in
theorem sortedKeys_any (w : World) (Bm b nn : Nat) (D0 : DataW Nat) (hnn : nn ≤ 2000) (hm : w.cell? ⟨Bm, 0, none⟩ = some (.map (some b))) (hown : w.ownsMap Try.prog 67 pgR b nn D0) :
    Calls Try.prog 28 #[.func (.func 34) #[] #[.pointer (some ⟨Bm, 0, none⟩)], .func (.func 29) #[] #[]] w fun e w' =>
      ∃ v ps, e = .returned v ∧ SortedKeys D0 ps ∧ ps.length ≤ nn ∧ KeyRow w.heap.size w' v ps ∧ Below w.heap.size w w' := by
  have hcol := (callsIn_wide (n := 4)).1 (collect_in Fence.wide 4 trivial trivial trivial rfl (by omega) w Bm b nn D0 hnn hm hown)
  have hsz : ∀ xs, KeysOf D0 xs → xs.length ≤ nn := fun xs hk => by
    obtain ⟨es, hes, _⟩ := hown.tidy keyed
    have h1 := hown.size_le
    rw [hes] at h1
    exact Nat.le_trans (KeysOf.len hes hk.apart hk.only) h1
  go_enter Try.func28, Try.ntmps28
  go_wp2_with (go_at_call 35; refine hcol.mono ?_; rintro e w1 ⟨v, xs, rfl, hk, ho, hz, hb⟩)
  by_cases hx : xs = []
  · subst hx
    obtain rfl := hz rfl
    refine (sortNil_any w1).mono ?_
    rintro e w2 ⟨rfl, rfl⟩
    go_wp2
    go_ret
    refine ⟨_, [], rfl, ⟨fun q => ⟨fun h => (by cases h), ?_⟩, List.Pairwise.nil⟩, by simp, ⟨none, 0, rfl, fun h => absurd h (by simp)⟩, hb⟩
    rintro ⟨x, _, hx⟩
    obtain ⟨y, hy, _⟩ := hk.all _ hx
    cases hy
  · have hpos : 0 < xs.length := by cases xs with | nil => exact absurd rfl hx | cons _ _ => simp
    have ho' := ho
    rcases ho.2 with ⟨_, h0⟩ | ⟨g, cap, cur, rfl, hB, hg, _⟩
    · omega
    · have hsize : (xs.map (·.1)).toArray.size = xs.length := by simp
      have hlt := (Array.getElem?_eq_some_iff.1 hg).1
      have hS := sortKeys_any g cap (xs.map (·.1)).toArray w1 hlt (holds_of_own ho') (by have := hsz xs hk; rw [hsize]; omega)
      rw [hsize] at hS
      refine hS.mono ?_
      rintro e w2 ⟨rfl, ks', hp, hs, hH, hgr, hty⟩
      obtain ⟨c', hc'⟩ := hty _ _ _ hg
      rw [← hsize] at hp hs
      have hseq := seqd hk hp hs
      have hlen : ks'.toList.length = xs.length := by have := hp.1; simpa using this
      go_wp2
      go_ret
      refine ⟨_, ks'.toList, rfl, hseq, by rw [hlen]; exact hsz xs hk, ⟨_, cap, by rw [hlen]; rfl, fun _ => ⟨g, c', _, rfl, hB, hc', fun k hk i hi => ?_⟩⟩, hb.grown hgr hb.size (fun j e => by cases e; exact hB)⟩
      have hk' : k < ks'.size := by simpa using hk
      have := (hH.cell hk' hi).1
      rw [Nat.zero_add, row_cells hc'] at this
      rw [this, getElem!_pos ks' k hk']
      have : i < (encK ks'[k]).length := by simp [encK]; omega
      rw [getElem!_pos _ i this]
      simp [this]

end Go.Proofs.Ytioajmhfofmdoaa
