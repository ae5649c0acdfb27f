/- Without, of the program and of the reference. -/
import Derived.Test.YtmgiojkdcpolfaaIn
namespace Go.Proofs.Ytmgiojkdcpolfaa
open Go.RowKit Go.Sort

/-- The rest of a sequence behind a weak initial. -/
def wo (l : List PS) (x : PS) : Option (List PS) :=
  match l.findIdx? (fun s => pk s x) with
  | some i => match l[i]? with
    | some y => if iniB l i y then some (l.take i ++ l.drop (i + 1)) else none
    | none => none
  | none => if l.any (fun s => dep s x) then none else some l
theorem idx_cases (l : List PS) (f : PS → Bool) : (∃ k y, l[k]? = some y ∧ (l.take k).any f = false ∧ f y = true ∧ l.findIdx? f = some k ∧ idxI l f = k) ∨ (l.any f = false ∧ l.findIdx? f = none ∧ idxI l f = -1) := by
  unfold idxI
  cases h : l.findIdx? f with
  | none =>
    right
    rw [List.findIdx?_eq_none_iff] at h
    refine ⟨List.any_eq_false.2 fun x hx => by simpa using h x hx, rfl, rfl⟩
  | some k =>
    left
    rw [List.findIdx?_eq_some_iff_getElem] at h
    obtain ⟨h1, h2, h3⟩ := h
    refine ⟨k, l[k], List.getElem?_eq_getElem h1, ?_, h2, rfl, rfl⟩
    refine List.any_eq_false.2 fun x hx => ?_
    obtain ⟨j, hj, rfl⟩ := List.mem_take_iff_getElem.1 hx
    have := h3 j (by omega)
    simpa using this
theorem first_idx {l : List PS} {f : PS → Bool} {k : Nat} {y : PS} (h : (l.take k).any f = false) (hk : l[k]? = some y) (hy : f y = true) : l.findIdx? f = some k := by
  rw [List.findIdx?_eq_some_iff_getElem]
  obtain ⟨hlt, he⟩ := List.getElem?_eq_some_iff.1 hk
  refine ⟨hlt, by rw [he]; exact hy, fun j hj => ?_⟩
  have := List.any_eq_false.1 h l[j] (by rw [List.mem_take_iff_getElem]; exact ⟨j, by omega, rfl⟩)
  simpa using this
theorem wo_hit {l : List PS} {x y : PS} {k : Nat} (h : l.findIdx? (fun s => pk s x) = some k) (hk : l[k]? = some y) : wo l x = if iniB l k y then some (l.take k ++ l.drop (k + 1)) else none := by
  unfold wo; rw [h]; simp only; rw [hk]
theorem wo_miss {l : List PS} {x : PS} (h : l.findIdx? (fun s => pk s x) = none) : wo l x = if l.any (fun s => dep s x) then none else some l := by
  unfold wo; rw [h]
theorem wo_len {l r : List PS} {x : PS} (h : wo l x = some r) : r.length ≤ l.length := by
  rcases idx_cases l (fun s => pk s x) with ⟨k, y, hk, _, _, hf, _⟩ | ⟨_, hf, _⟩
  · rw [wo_hit hf hk] at h
    split at h
    · cases h; simp; omega
    · cases h
  · rw [wo_miss hf] at h
    split at h
    · cases h
    · cases h; exact Nat.le_refl _
theorem wo_sub {l r : List PS} {x : PS} (h : wo l x = some r) : ∀ p ∈ r, p ∈ l := by
  rcases idx_cases l (fun s => pk s x) with ⟨k, y, hk, _, _, hf, _⟩ | ⟨_, hf, _⟩
  · rw [wo_hit hf hk] at h
    split at h
    · cases h
      intro p hp
      rcases List.mem_append.1 hp with hp | hp
      · exact List.mem_of_mem_take hp
      · exact List.mem_of_mem_drop hp
    · cases h
  · rw [wo_miss hf] at h
    split at h
    · cases h
    · cases h; exact fun _ h => h

theorem own_low {w : World} {B B' : Nat} {e : TypeId} {size : Nat} {v : Value} {n : Nat} {xs : List Value} (h : w.ownsRow B e size v n xs) (hb : B' ≤ B) : w.ownsRow B' e size v n xs := by
  refine ⟨h.1, ?_⟩
  rcases h.2 with h0 | ⟨g, cap, cur, e1, e2, rest⟩
  · exact .inl h0
  · exact .inr ⟨g, cap, cur, e1, by omega, rest⟩

/-- What Without gives. -/
def WoPost (o : Option (List PS)) (w : World) (e : Ending) (w' : World) : Prop := ∃ v b, e = .returned (.tuple #[v, .bool b]) ∧ Below w.heap.size w w' ∧
  (match o with
  | none => v = .slice none 0 0 ∧ b = false
  | some r => b = true ∧ w'.ownsRow w.heap.size 30 4 v r.length (r.flatMap stC))
theorem WoPost.none' {o : Option (List PS)} {w w' : World} (h : o = none) (hb : Below w.heap.size w w') : WoPost o w (.returned (.tuple #[.slice none 0 0, .bool false])) w' := by
  subst h; exact ⟨_, _, rfl, hb, rfl, rfl⟩
theorem WoPost.some' {o : Option (List PS)} {r : List PS} {v : Value} {w w' : World} (h : o = some r) (hb : Below w.heap.size w w') (ho : w'.ownsRow w.heap.size 30 4 v r.length (r.flatMap stC)) : WoPost o w (.returned (.tuple #[v, .bool true])) w' := by
  subst h; exact ⟨_, _, rfl, hb, rfl, ho⟩

set_option maxRecDepth 100000 in
set_option maxHeartbeats 2000000 in
theorem withoutP_any (ad : Option Addr) (l : List PS) (cap : Nat) (x : PS) (w : World) (hS : Sts w ad l) (hx : Rd w x) (hcap : l.length ≤ cap) (hn : ad = none → cap = 0) (hb : l.length ≤ 900) :
    Calls Try.prog 19 #[.slice ad l.length cap, stv x] w (WoPost (wo l x) w) := by
  obtain ⟨X, hX⟩ : ∃ X, X = w.alloc (.cells (stC x).toArray 30) := ⟨_, rfl⟩
  have HB := Lib.hid (show Below w.heap.size w X by rw [hX]; exact (by repeat (first | exact Below.refl _ _ | refine below_gw ?_ (by simp; try omega) _ | refine Below.alloc ?_ (by simp; try omega) _ | refine Below.setCell ?_ (by simp; try omega) _ | refine Below.drew ?_)))
  have hbx : X.heap[w.heap.size]? = some (.cells (stC x).toArray 30 (0, 0)) := by rw [hX]; exact heap_alloc_at' _ _ _ rfl
  have HS := Lib.hid (hS.below HB.out)
  have HX := Lib.hid (hx.below HB.out)
  obtain ⟨b0, b1, b2, b3⟩ := box_step hbx
  have o0 : Old w.heap.size X := Old.of_cell b0
  have HBX := Lib.hid hbx
  clear hS hx hbx
  have HI := Lib.hid (cl40_idx ad l cap w.heap.size (fun s => pk s x) X HS.out (by omega) (fun p _ r => cl40_any p x w.heap.size _ ((gw_cell _ _ _ _ o0).trans b0) ((gw_cell _ _ _ _ o0).trans b1)))
  rcases idx_cases l (fun s => pk s x) with ⟨k, y, hk, _, _, hf, he⟩ | ⟨_, hf, he⟩
  · have hlt := (List.getElem?_eq_some_iff.1 hk).1
    have hw := wo_hit hf hk
    rw [he] at HI
    have HC := fun r => initialP_any ad l cap k y (gw X r) (HS.out.gw r) hcap (by omega) hk
    clear hf he
    obtain ⟨d, hd⟩ : ∃ d, iniB l k y = d := ⟨_, rfl⟩
    rw [hd] at HC hw
    have HCC := Lib.hid HC
    have HW := Lib.hid hw
    have HK := Lib.hid hk
    clear HC hw hk
    cases d
    · go_enter Try.func19, Try.ntmps19
      go_wp2_with (go_at_call 39; refine Stop.here ?_)
      refine Stop.on ?_
      rw [← hX]
      clear hX
      refine HI.out.mono ?_
      rintro e w1 ⟨rfl, p1, rfl⟩
      go_wp2_with (go_at_call 41; (with_reducible refine (HCC.out p1).mono ?_); rintro e w1 ⟨rfl, p2, rfl⟩)
      obtain ⟨p, hp⟩ := back_gw X p1 p2
      rw [hp]
      have hB := below_gw HB.out HB.out.size p
      refine bodyPost_ret (results_tmp2 Try.results19 _ _ _) rfl ?_
      exact WoPost.none' HW.out hB
    · go_enter Try.func19, Try.ntmps19
      go_wp2_with (go_at_call 39; refine Stop.here ?_)
      refine Stop.on ?_
      rw [← hX]
      clear hX
      refine HI.out.mono ?_
      rintro e w1 ⟨rfl, p1, rfl⟩
      go_wp2_with (go_at_call 41; (with_reducible refine (HCC.out p1).mono ?_); rintro e w1 ⟨rfl, p2, rfl⟩)
      obtain ⟨p, hp⟩ := back_gw X p1 p2
      rw [hp]
      clear hp
      have hB := Lib.hid (below_gw HB.out HB.out.size p)
      refine wp_region_qm 7 [] (by kernel_rfl) (by kernel_rfl) (by simp [quietOps, List.range, List.range.loop]; rfl) (by simp [makerOps]; rfl) (by simp; rfl) ?_
      have hwr : IntKind.i64.wrap ((k : Int) + 1) = (k : Int) + 1 := by rw [IntKind.wrap_i64]; omega
      have hk1 : (0 : Int) ≤ (k : Int) + 1 := by omega
      have hk2 : (k : Int) + 1 ≤ l.length := by omega
      have hk3 : ((k : Int) + 1).toNat = k + 1 := by omega
      have hk4 : (k : Int) ≤ cap := by omega
      repeat (refine wpG_step (fun K hK => ?_); go_simp; first | (refine hK _ ?_; clear hK K))
      refine wpG_nil ?_
      refine ⟨[], trivial, ?_⟩
      intro bs hls _ _ q1 _
      match bs, hls with
      | [], _ =>
      generalize hA : putMk _ _ _ _ = AA
      simp [putMk] at hA
      subst hA
      clear hwr hk1 hk2 hk3 hk4
      obtain ⟨p3, hp3⟩ : ∃ p3, gw (gw X p).drew q1 = gw X p3 := back_gw X ⟨p.d + 1, p.os⟩ q1
      rw [hp3]
      clear hp3
      go_step
      go_step
      go_step
      go_step
      go_step
      obtain ⟨ad2, ha2⟩ : ∃ ad2, ad2 = (if cap = k + 1 then ad else ad.map (·.add ((k + 1) * 4))) := ⟨_, rfl⟩
      rw [← ha2]
      obtain ⟨Y, hY⟩ : ∃ Y, Y = (gw X p3).alloc (.cells #[.slice ad k cap, .slice ad2 (l.length - (k + 1)) (cap - (k + 1))] 41) := ⟨_, rfl⟩
      rw [← hY]
      have HY := Lib.hid (show Below X.heap.size X Y by rw [hY]; exact (gw_below X p3).alloc (by simp) _)
      have hs1 : Sts Y ad (l.take k) := (HS.out.below HY.out).take k
      have hs2 : Sts Y ad2 (l.drop (k + 1)) := by rw [ha2]; exact (HS.out.below HY.out).drop (k + 1) hcap
      have hc0 : Y.cell? ⟨X.heap.size + p3.os.size, 0, none⟩ = some (.slice ad (l.take k).length cap) := by
        rw [List.length_take, Nat.min_eq_left (by omega), hY]; simp [go_sem]
      have hc1 : Y.cell? ⟨X.heap.size + p3.os.size, 1, none⟩ = some (.slice ad2 (l.drop (k + 1)).length (cap - (k + 1))) := by
        rw [List.length_drop, hY]; simp [go_sem]
      have hne : ad2 = none → cap - (k + 1) = 0 := fun h => by
        exfalso
        obtain ⟨b, off, e, _⟩ := HS.out.row (by omega)
        rw [ha2, e] at h
        split at h <;> cases h
      refine (concat_any ad ad2 (l.take k) (l.drop (k + 1)) cap (cap - (k + 1)) _ Y hc0 hc1 hs1 hs2 hn hne (by simp; omega)).mono ?_
      clear hs1 hs2 hc0 hc1 hne hY ha2
      rintro e w2 ⟨v, rfl, hown, hbel⟩
      have HBY := HB.out.trans (HY.out.mono HB.out.size)
      have hfin := Lib.hid (WoPost.some' HW.out (HBY.trans (hbel.mono HBY.size)) (own_low hown HBY.size))
      clear hown hbel HBY HY
      go_wp2
      refine bodyPost_ret (results_tmp2 Try.results19 _ _ _) rfl ?_
      exact hfin.out
  · have hw := wo_miss hf
    rw [he] at HI
    clear hf he
    have HC := Lib.hid (fun r => cl44_con ad l cap w.heap.size (fun s => dep s x) (gw X r) (HS.out.gw r) (by omega) (fun p hp q => cl44_any p x w.heap.size _ ((gw_heap _ _ _ (by simp; have := o0.lt; omega)).trans ((gw_heap _ _ _ o0.lt).trans HBX.out)) (((HS.out.rd p hp).gw r).gw q) ((HX.out.gw r).gw q)))
    obtain ⟨d, hd⟩ : ∃ d, l.any (fun s => dep s x) = d := ⟨_, rfl⟩
    rw [hd] at hw
    have HD := Lib.hid hd
    have HW := Lib.hid hw
    clear hd hw
    have HCC := Lib.hid (fun r => (HD.out ▸ HC.out r : Calls _ _ _ (gw X r) (Gives (.bool d) (gw X r))))
    clear HC HD
    have HCL := Lib.hid (fun r => clone_any ad l cap (gw X r) (HS.out.gw r) hn (by omega))
    clear hn
    cases d
    · go_enter Try.func19, Try.ntmps19
      go_wp2_with (go_at_call 39; refine Stop.here ?_)
      refine Stop.on ?_
      rw [← hX]
      clear hX
      refine HI.out.mono ?_
      rintro e w1 ⟨rfl, p1, rfl⟩
      go_wp2_with (go_at_call 43; (with_reducible refine (HCC.out p1).mono ?_); rintro e w1 ⟨rfl, p2, rfl⟩)
      obtain ⟨p, hp⟩ := back_gw X p1 p2
      rw [hp]
      clear hp
      go_wp2_with (go_at_call 46; refine Stop.here ?_)
      refine Stop.on ?_
      refine (HCL.out p).mono ?_
      rintro e w2 ⟨v, rfl, hown, hbel⟩
      have HBY := below_gw HB.out HB.out.size p
      have hfin := Lib.hid (WoPost.some' HW.out (HBY.trans (hbel.mono HBY.size)) (own_low hown HBY.size))
      clear hown hbel HBY
      go_wp2
      refine bodyPost_ret (results_tmp2 Try.results19 _ _ _) rfl ?_
      exact hfin.out
    · go_enter Try.func19, Try.ntmps19
      go_wp2_with (go_at_call 39; refine Stop.here ?_)
      refine Stop.on ?_
      rw [← hX]
      clear hX
      refine HI.out.mono ?_
      rintro e w1 ⟨rfl, p1, rfl⟩
      go_wp2_with (go_at_call 43; (with_reducible refine (HCC.out p1).mono ?_); rintro e w1 ⟨rfl, p2, rfl⟩)
      obtain ⟨p, hp⟩ := back_gw X p1 p2
      rw [hp]
      clear hp
      have hB := below_gw HB.out HB.out.size p
      refine bodyPost_ret (results_tmp2 Try.results19 _ _ _) rfl ?_
      exact WoPost.none' HW.out hB

end Go.Proofs.Ytmgiojkdcpolfaa
