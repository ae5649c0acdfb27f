/- The predicates of package wakeup, and slices.IndexFunc at them. -/
import Derived.Test.YtmgiojkdcpolfaaRw
namespace Go.Proofs.Ytmgiojkdcpolfaa
open Go.RowKit Go.Sort

def pk (p q : PS) : Bool := p.g == q.g && p.c == q.c
/-- The first index, or -1. -/
def idxI (l : List PS) (f : PS → Bool) : Int := match l.findIdx? f with | some i => (i : Int) | none => -1
theorem idx_hit {l : List PS} {f : PS → Bool} {k : Nat} {x : PS} (h : (l.take k).any f = false) (hk : l[k]? = some x) (hx : f x = true) : idxI l f = k := by
  have hlt := (List.getElem?_eq_some_iff.1 hk).1
  have he : l[k] = x := (List.getElem?_eq_some_iff.1 hk).2
  have : l.findIdx? f = some k := by
    rw [List.findIdx?_eq_some_iff_getElem]
    refine ⟨hlt, by rw [he]; exact hx, fun j hj => ?_⟩
    have := List.any_eq_false.1 h l[j] (by rw [List.mem_take_iff_getElem]; exact ⟨j, by omega, rfl⟩)
    simpa using this
  rw [idxI, this]
theorem idx_none {l : List PS} {f : PS → Bool} (h : l.any f = false) : idxI l f = -1 := by
  have : l.findIdx? f = none := by
    rw [List.findIdx?_eq_none_iff]
    intro x hx
    have := List.any_eq_false.1 h x hx
    simpa using this
  rw [idxI, this]
theorem idx_any (l : List PS) (f : PS → Bool) : decide (idxI l f ≥ 0) = l.any f := by
  unfold idxI
  cases h : l.findIdx? f with
  | none =>
    rw [List.findIdx?_eq_none_iff] at h
    simp
    intro x hx
    simpa using h x hx
  | some i =>
    rw [List.findIdx?_eq_some_iff_getElem] at h
    obtain ⟨h1, h2, _⟩ := h
    simp
    exact ⟨_, List.getElem_mem h1, h2⟩

theorem cl40_any (p x : PS) (bx : Nat) (w : World) (h0 : w.cell? ⟨bx, 0, none⟩ = some (.int .i64 x.g)) (h1 : w.cell? ⟨bx, 1, none⟩ = some (.int .i64 x.c)) :
    Calls Try.prog 40 #[stv p, .pointer (some ⟨bx, 0, none⟩)] w (Gives (.bool (pk p x)) w) := by
  have o0 : Old bx w := Old.of_cell h0
  go_enter Try.func40, Try.ntmps40
  go_wp2
  all_goals
    go_ret
    exact Gives.mk (by simp [pk, *]) (by repeat (first | exact Below.refl _ _ | refine below_gw ?_ (by simp; try omega) _ | refine Below.alloc ?_ (by simp; try omega) _ | refine Below.setCell ?_ (by simp; try omega) _ | refine Below.drew ?_))

theorem box_step {w : World} {bx : Nat} {x : PS} {t : TypeId} (h : w.heap[bx]? = some (.cells (stC x).toArray t (0, 0))) : w.cell? ⟨bx, 0, none⟩ = some (.int .i64 x.g) ∧ w.cell? ⟨bx, 1, none⟩ = some (.int .i64 x.c) ∧ w.cell? ⟨bx, 2, none⟩ = some (.slice x.ga x.gs.length x.gc) ∧ w.cell? ⟨bx, 3, none⟩ = some (.slice x.ta x.ts.length x.tc) :=
  ⟨row_cells h 0, row_cells h 1, row_cells h 2, row_cells h 3⟩

theorem cl44_any (p x : PS) (bx : Nat) (w : World) (hx : w.heap[bx]? = some (.cells (stC x).toArray 30 (0, 0))) (hp : Rd w p) (hr : Rd w x) :
    Calls Try.prog 44 #[stv p, .pointer (some ⟨bx, 0, none⟩)] w (Gives (.bool (dep p x)) w) := by
  obtain ⟨h0, h1, h2, h3⟩ := box_step hx
  have o0 : Old bx w := Old.of_cell h0
  have HP := Lib.hid hp
  have HR := Lib.hid hr
  have HW := Lib.hid (show Below w.heap.size w (w.alloc (.cells (stC p).toArray 30)) from (by repeat (first | exact Below.refl _ _ | refine below_gw ?_ (by simp; try omega) _ | refine Below.alloc ?_ (by simp; try omega) _ | refine Below.setCell ?_ (by simp; try omega) _ | refine Below.drew ?_)))
  clear hx hp hr
  go_enter Try.func44, Try.ntmps44
  go_wp2_with (go_at_call 45; (with_reducible refine (dependP_any p x _ (HP.out.below HW.out) (HR.out.below HW.out)).mono ?_); rintro e w1 ⟨rfl, p1, rfl⟩)
  go_ret; exact Gives.mk rfl (by repeat (first | exact Below.refl _ _ | refine below_gw ?_ (by simp; try omega) _ | refine Below.alloc ?_ (by simp; try omega) _ | refine Below.setCell ?_ (by simp; try omega) _ | refine Below.drew ?_))

theorem cl65_any (s y : PS) (ad : Option Addr) (l : List PS) (cap i bl bi : Nat) (w : World) (hl : w.cell? ⟨bl, 0, none⟩ = some (.slice ad l.length cap)) (hi : w.cell? ⟨bi, 0, none⟩ = some (.int .i64 i)) (hs : Rd w s) (hy : l[i]? = some y) (hS : Sts w ad l) :
    Calls Try.prog 65 #[stv s, .pointer (some ⟨bl, 0, none⟩), .pointer (some ⟨bi, 0, none⟩)] w (Gives (.bool (dep s y)) w) := by
  have o0 : Old bl w := Old.of_cell hl
  have o1 : Old bi w := Old.of_cell hi
  have hlt := (List.getElem?_eq_some_iff.1 hy).1
  have ib : (i : Int) < l.length := by omega
  have HP := Lib.hid hs
  have HR := Lib.hid (hS.at hy)
  obtain ⟨b, off, rfl, ho, hc⟩ := hS.row.get hy
  have f0 := hc 0 (by omega)
  have f1 := hc 1 (by omega)
  have f2 := hc 2 (by omega)
  have f3 := hc 3 (by omega)
  simp at f0 f1 f2 f3
  have HW := Lib.hid (show Below w.heap.size w (w.alloc (.cells (stC s).toArray 30)) from (by repeat (first | exact Below.refl _ _ | refine below_gw ?_ (by simp; try omega) _ | refine Below.alloc ?_ (by simp; try omega) _ | refine Below.setCell ?_ (by simp; try omega) _ | refine Below.drew ?_)))
  clear hs hS hy hc
  go_enter Try.func65, Try.ntmps65
  go_wp2
  refine wp_region_gw (by kernel_rfl) (by kernel_rfl) ?_
  repeat (quiet_step (first | (go_at_call 45; exact Gives.call (dependP_any s y _ ((HP.out.below HW.out).gw _) ((HR.out.below HW.out).gw _)))))
  refine wpQuiet_nil ?_
  intro _ hw'
  obtain ⟨p1, hw''⟩ := hw'
  subst hw''
  go_wp2
  go_ret; exact Gives.mk rfl (by repeat (first | exact Below.refl _ _ | refine below_gw ?_ (by simp; try omega) _ | refine Below.alloc ?_ (by simp; try omega) _ | refine Below.setCell ?_ (by simp; try omega) _ | refine Below.drew ?_))

set_option maxHeartbeats 1000000 in
theorem cl40_idx (ad : Option Addr) (l : List PS) (cap : Nat) (bx : Nat) (f : PS → Bool) (w : World) (hS : Sts w ad l) (hb : l.length ≤ 1000)
    (hcl : ∀ p ∈ l, ∀ r, Calls Try.prog 40 #[stv p, .pointer (some ⟨bx, 0, none⟩)] (gw w r) (Gives (.bool (f p)) (gw w r))) :
    Calls Try.prog 39 #[.slice ad l.length cap, .func (.func 40) #[] #[.pointer (some ⟨bx, 0, none⟩)]] w (Gives (.int .i64 (idxI l f)) w) := by
  have HS := Lib.hid hS
  have HC := Lib.hid hcl
  clear hS hcl
  go_enter Try.func39, Try.ntmps39
  go_wp2
  go_loopw [8] (fun i wr => ∃ k : Nat, ∃ r, k ≤ l.length ∧ i = .int .i64 k ∧ Hid ((l.take k).any f = false) ∧ wr = gw w r) (fun i _ => l.length - (intOf i).toNat)
  case atStart => exact ⟨0, _, by omega, rfl, Lib.hid rfl, gw_self _⟩
  case round =>
    obtain ⟨k, r, hk, rfl, hf, rfl⟩ := hrel
    by_cases hlt : k < l.length
    · have kb : (k : Int) < l.length := by omega
      obtain ⟨x, hx⟩ := get_some hlt
      have HP := Lib.hid (HC.out x (List.mem_of_getElem? hx) r)
      obtain ⟨b, off, rfl, ho, hc⟩ := HS.out.row.get hx
      have f0 := hc 0 (by omega)
      have f1 := hc 1 (by omega)
      have f2 := hc 2 (by omega)
      have f3 := hc 3 (by omega)
      simp at f0 f1 f2 f3
      have HX := Lib.hid hx
      clear hx hc
      obtain ⟨d, hd⟩ : ∃ d, f x = d := ⟨_, rfl⟩
      rw [hd] at HP
      have HD := Lib.hid hd
      clear hd
      cases d
      · go_wp2_with (go_at_call 40; (with_reducible refine (HP.out).mono ?_); rintro e w1 ⟨rfl, p1, rfl⟩)
        obtain ⟨r', hr'⟩ := back_gw w r p1
        exact ⟨⟨k + 1, r', by omega, by go_num, Lib.hid (by rw [any_take _ HX.out, hf.out, HD.out]; rfl), hr'⟩, by simp [intOf]; omega⟩
      · have he := Lib.hid (idx_hit hf.out HX.out HD.out)
        go_wp2_with (go_at_call 40; (with_reducible refine (HP.out).mono ?_); rintro e w1 ⟨rfl, p1, rfl⟩)
        have HB := Lib.hid (gw_below w r)
        go_ret; exact Gives.mk (by rw [he.out]; rfl) (by have hb' := HB.out; have hs' := HB.out.size; repeat (first | exact hb' | refine below_gw ?_ (by first | (simp; done) | (simp; omega) | omega) _ | refine Below.alloc ?_ (by first | (simp; done) | (simp; omega) | omega) _ | refine Below.setCell ?_ (by first | (simp; done) | (simp; omega) | omega) | refine Below.drew ?_))
    · have he := Lib.hid (idx_none (any_full hlt hf.out))
      go_wp2
      have HB := Lib.hid (gw_below w r)
      go_ret; exact Gives.mk (by rw [he.out]; rfl) (by have hb' := HB.out; have hs' := HB.out.size; repeat (first | exact hb' | refine below_gw ?_ (by first | (simp; done) | (simp; omega) | omega) _ | refine Below.alloc ?_ (by first | (simp; done) | (simp; omega) | omega) _ | refine Below.setCell ?_ (by first | (simp; done) | (simp; omega) | omega) | refine Below.drew ?_))

set_option maxHeartbeats 1000000 in
theorem cl44_idx (ad : Option Addr) (l : List PS) (cap : Nat) (bx : Nat) (f : PS → Bool) (w : World) (hS : Sts w ad l) (hb : l.length ≤ 1000)
    (hcl : ∀ p ∈ l, ∀ r, Calls Try.prog 44 #[stv p, .pointer (some ⟨bx, 0, none⟩)] (gw w r) (Gives (.bool (f p)) (gw w r))) :
    Calls Try.prog 39 #[.slice ad l.length cap, .func (.func 44) #[] #[.pointer (some ⟨bx, 0, none⟩)]] w (Gives (.int .i64 (idxI l f)) w) := by
  have HS := Lib.hid hS
  have HC := Lib.hid hcl
  clear hS hcl
  go_enter Try.func39, Try.ntmps39
  go_wp2
  go_loopw [8] (fun i wr => ∃ k : Nat, ∃ r, k ≤ l.length ∧ i = .int .i64 k ∧ Hid ((l.take k).any f = false) ∧ wr = gw w r) (fun i _ => l.length - (intOf i).toNat)
  case atStart => exact ⟨0, _, by omega, rfl, Lib.hid rfl, gw_self _⟩
  case round =>
    obtain ⟨k, r, hk, rfl, hf, rfl⟩ := hrel
    by_cases hlt : k < l.length
    · have kb : (k : Int) < l.length := by omega
      obtain ⟨x, hx⟩ := get_some hlt
      have HP := Lib.hid (HC.out x (List.mem_of_getElem? hx) r)
      obtain ⟨b, off, rfl, ho, hc⟩ := HS.out.row.get hx
      have f0 := hc 0 (by omega)
      have f1 := hc 1 (by omega)
      have f2 := hc 2 (by omega)
      have f3 := hc 3 (by omega)
      simp at f0 f1 f2 f3
      have HX := Lib.hid hx
      clear hx hc
      obtain ⟨d, hd⟩ : ∃ d, f x = d := ⟨_, rfl⟩
      rw [hd] at HP
      have HD := Lib.hid hd
      clear hd
      cases d
      · go_wp2_with (go_at_call 44; (with_reducible refine (HP.out).mono ?_); rintro e w1 ⟨rfl, p1, rfl⟩)
        obtain ⟨r', hr'⟩ := back_gw w r p1
        exact ⟨⟨k + 1, r', by omega, by go_num, Lib.hid (by rw [any_take _ HX.out, hf.out, HD.out]; rfl), hr'⟩, by simp [intOf]; omega⟩
      · have he := Lib.hid (idx_hit hf.out HX.out HD.out)
        go_wp2_with (go_at_call 44; (with_reducible refine (HP.out).mono ?_); rintro e w1 ⟨rfl, p1, rfl⟩)
        have HB := Lib.hid (gw_below w r)
        go_ret; exact Gives.mk (by rw [he.out]; rfl) (by have hb' := HB.out; have hs' := HB.out.size; repeat (first | exact hb' | refine below_gw ?_ (by first | (simp; done) | (simp; omega) | omega) _ | refine Below.alloc ?_ (by first | (simp; done) | (simp; omega) | omega) _ | refine Below.setCell ?_ (by first | (simp; done) | (simp; omega) | omega) | refine Below.drew ?_))
    · have he := Lib.hid (idx_none (any_full hlt hf.out))
      go_wp2
      have HB := Lib.hid (gw_below w r)
      go_ret; exact Gives.mk (by rw [he.out]; rfl) (by have hb' := HB.out; have hs' := HB.out.size; repeat (first | exact hb' | refine below_gw ?_ (by first | (simp; done) | (simp; omega) | omega) _ | refine Below.alloc ?_ (by first | (simp; done) | (simp; omega) | omega) _ | refine Below.setCell ?_ (by first | (simp; done) | (simp; omega) | omega) | refine Below.drew ?_))

set_option maxHeartbeats 1000000 in
theorem cl65_idx (ad : Option Addr) (l : List PS) (cap : Nat) (bl bi : Nat) (f : PS → Bool) (w : World) (hS : Sts w ad l) (hb : l.length ≤ 1000)
    (hcl : ∀ p ∈ l, ∀ r, Calls Try.prog 65 #[stv p, .pointer (some ⟨bl, 0, none⟩), .pointer (some ⟨bi, 0, none⟩)] (gw w r) (Gives (.bool (f p)) (gw w r))) :
    Calls Try.prog 39 #[.slice ad l.length cap, .func (.func 65) #[] #[.pointer (some ⟨bl, 0, none⟩), .pointer (some ⟨bi, 0, none⟩)]] w (Gives (.int .i64 (idxI l f)) w) := by
  have HS := Lib.hid hS
  have HC := Lib.hid hcl
  clear hS hcl
  go_enter Try.func39, Try.ntmps39
  go_wp2
  go_loopw [8] (fun i wr => ∃ k : Nat, ∃ r, k ≤ l.length ∧ i = .int .i64 k ∧ Hid ((l.take k).any f = false) ∧ wr = gw w r) (fun i _ => l.length - (intOf i).toNat)
  case atStart => exact ⟨0, _, by omega, rfl, Lib.hid rfl, gw_self _⟩
  case round =>
    obtain ⟨k, r, hk, rfl, hf, rfl⟩ := hrel
    by_cases hlt : k < l.length
    · have kb : (k : Int) < l.length := by omega
      obtain ⟨x, hx⟩ := get_some hlt
      have HP := Lib.hid (HC.out x (List.mem_of_getElem? hx) r)
      obtain ⟨b, off, rfl, ho, hc⟩ := HS.out.row.get hx
      have f0 := hc 0 (by omega)
      have f1 := hc 1 (by omega)
      have f2 := hc 2 (by omega)
      have f3 := hc 3 (by omega)
      simp at f0 f1 f2 f3
      have HX := Lib.hid hx
      clear hx hc
      obtain ⟨d, hd⟩ : ∃ d, f x = d := ⟨_, rfl⟩
      rw [hd] at HP
      have HD := Lib.hid hd
      clear hd
      cases d
      · go_wp2_with (go_at_call 65; (with_reducible refine (HP.out).mono ?_); rintro e w1 ⟨rfl, p1, rfl⟩)
        obtain ⟨r', hr'⟩ := back_gw w r p1
        exact ⟨⟨k + 1, r', by omega, by go_num, Lib.hid (by rw [any_take _ HX.out, hf.out, HD.out]; rfl), hr'⟩, by simp [intOf]; omega⟩
      · have he := Lib.hid (idx_hit hf.out HX.out HD.out)
        go_wp2_with (go_at_call 65; (with_reducible refine (HP.out).mono ?_); rintro e w1 ⟨rfl, p1, rfl⟩)
        have HB := Lib.hid (gw_below w r)
        go_ret; exact Gives.mk (by rw [he.out]; rfl) (by have hb' := HB.out; have hs' := HB.out.size; repeat (first | exact hb' | refine below_gw ?_ (by first | (simp; done) | (simp; omega) | omega) _ | refine Below.alloc ?_ (by first | (simp; done) | (simp; omega) | omega) _ | refine Below.setCell ?_ (by first | (simp; done) | (simp; omega) | omega) | refine Below.drew ?_))
    · have he := Lib.hid (idx_none (any_full hlt hf.out))
      go_wp2
      have HB := Lib.hid (gw_below w r)
      go_ret; exact Gives.mk (by rw [he.out]; rfl) (by have hb' := HB.out; have hs' := HB.out.size; repeat (first | exact hb' | refine below_gw ?_ (by first | (simp; done) | (simp; omega) | omega) _ | refine Below.alloc ?_ (by first | (simp; done) | (simp; omega) | omega) _ | refine Below.setCell ?_ (by first | (simp; done) | (simp; omega) | omega) | refine Below.drew ?_))

theorem cl44_con (ad : Option Addr) (l : List PS) (cap : Nat) (bx : Nat) (f : PS → Bool) (w : World) (hS : Sts w ad l) (hb : l.length ≤ 1000)
    (hcl : ∀ p ∈ l, ∀ r, Calls Try.prog 44 #[stv p, .pointer (some ⟨bx, 0, none⟩)] (gw w r) (Gives (.bool (f p)) (gw w r))) :
    Calls Try.prog 43 #[.slice ad l.length cap, .func (.func 44) #[] #[.pointer (some ⟨bx, 0, none⟩)]] w (Gives (.bool (l.any f)) w) := by
  have HI := Lib.hid (cl44_idx ad l cap bx f w hS hb hcl)
  have he := Lib.hid (idx_any l f)
  clear hS hcl
  go_enter Try.func43, Try.ntmps43
  go_wp2_with (go_at_call 39; (with_reducible refine (HI.out).mono ?_); rintro e w1 ⟨rfl, p1, rfl⟩)
  have HB := Lib.hid (Below.refl w.heap.size w)
  go_ret; exact Gives.mk (by rw [he.out]; rfl) (by have hb' := HB.out; have hs' := HB.out.size; repeat (first | exact hb' | refine below_gw ?_ (by first | (simp; done) | (simp; omega) | omega) _ | refine Below.alloc ?_ (by first | (simp; done) | (simp; omega) | omega) _ | refine Below.setCell ?_ (by first | (simp; done) | (simp; omega) | omega) | refine Below.drew ?_))

theorem cl65_con (ad : Option Addr) (l : List PS) (cap : Nat) (bl bi : Nat) (f : PS → Bool) (w : World) (hS : Sts w ad l) (hb : l.length ≤ 1000)
    (hcl : ∀ p ∈ l, ∀ r, Calls Try.prog 65 #[stv p, .pointer (some ⟨bl, 0, none⟩), .pointer (some ⟨bi, 0, none⟩)] (gw w r) (Gives (.bool (f p)) (gw w r))) :
    Calls Try.prog 43 #[.slice ad l.length cap, .func (.func 65) #[] #[.pointer (some ⟨bl, 0, none⟩), .pointer (some ⟨bi, 0, none⟩)]] w (Gives (.bool (l.any f)) w) := by
  have HI := Lib.hid (cl65_idx ad l cap bl bi f w hS hb hcl)
  have he := Lib.hid (idx_any l f)
  clear hS hcl
  go_enter Try.func43, Try.ntmps43
  go_wp2_with (go_at_call 39; (with_reducible refine (HI.out).mono ?_); rintro e w1 ⟨rfl, p1, rfl⟩)
  have HB := Lib.hid (Below.refl w.heap.size w)
  go_ret; exact Gives.mk (by rw [he.out]; rfl) (by have hb' := HB.out; have hs' := HB.out.size; repeat (first | exact hb' | refine below_gw ?_ (by first | (simp; done) | (simp; omega) | omega) _ | refine Below.alloc ?_ (by first | (simp; done) | (simp; omega) | omega) _ | refine Below.setCell ?_ (by first | (simp; done) | (simp; omega) | omega) | refine Below.drew ?_))

end Go.Proofs.Ytmgiojkdcpolfaa
