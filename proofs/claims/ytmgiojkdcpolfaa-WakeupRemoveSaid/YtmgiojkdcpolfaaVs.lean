/- Steps in memory. -/
import Derived.Test.YtmgiojkdcpolfaaLib
import Derived.Test.YtmgiojkdcpolfaaOwn
namespace Go.Proofs.Ytmgiojkdcpolfaa
open Go.RowKit Go.Sort

/-- A row of entries of n cells. -/
def Row {α : Type} (n : Nat) (f : α → List Value) (w : World) (ad : Option Addr) (l : List α) : Prop :=
  0 < l.length → ∃ b off, ad = some ⟨b, off, none⟩ ∧ Old b w ∧ ∀ k (h : k < l.length) i, i < n → w.cell? ⟨b, off + k * n + i, none⟩ = (f l[k])[i]?
theorem Row.gw {α : Type} {n : Nat} {f : α → List Value} {w : World} {ad : Option Addr} {l : List α} (h : Row n f w ad l) (p : Regrown) : Row n f (gw w p) ad l := fun h0 => by
  obtain ⟨b, off, e, ho, hc⟩ := h h0
  exact ⟨b, off, e, by simp [Old] at ho ⊢; omega, fun k hk i hi => by rw [gw_cell _ _ _ _ ho]; exact hc k hk i hi⟩
theorem Row.below {α : Type} {n : Nat} {f : α → List Value} {w w' : World} {ad : Option Addr} {l : List α} (h : Row n f w ad l) (hb : Below w.heap.size w w') : Row n f w' ad l := by
  obtain ⟨p, rfl⟩ := gw_of_below hb
  exact h.gw p
theorem Row.at {α : Type} {n : Nat} {f : α → List Value} {w : World} {ad : Option Addr} {l : List α} (h : Row n f w ad l) {k : Nat} (hk : k < l.length) :
    ∃ b off, ad = some ⟨b, off, none⟩ ∧ Old b w ∧ ∀ i, i < n → w.cell? ⟨b, off + k * n + i, none⟩ = (f l[k])[i]? := by
  obtain ⟨b, off, e, ho, hc⟩ := h (by omega)
  exact ⟨b, off, e, ho, fun i hi => hc k hk i hi⟩

abbrev Tch := Int × Int × Int × Bool
abbrev intC (x : Int) : List Value := [.int .i64 x]
abbrev tchC (x : Tch) : List Value := [.int .i64 x.1, .int .i64 x.2.1, .int .i64 x.2.2.1, .bool x.2.2.2]
/-- A step as it lies. -/
structure PS where
  g : Int
  c : Int
  ga : Option Addr
  gs : List Int
  gc : Nat
  ta : Option Addr
  ts : List Tch
  tc : Nat
abbrev stC (p : PS) : List Value := [.int .i64 p.g, .int .i64 p.c, .slice p.ga p.gs.length p.gc, .slice p.ta p.ts.length p.tc]
abbrev stv (p : PS) : Value := .agg #[.int .i64 p.g, .int .i64 p.c, .slice p.ga p.gs.length p.gc, .slice p.ta p.ts.length p.tc]
abbrev pkv (g c : Int) : Value := .agg #[.int .i64 g, .int .i64 c]

/-- A step's rows are there, and short. -/
structure Rd (w : World) (p : PS) : Prop where
  gs : Row 1 intC w p.ga p.gs
  ts : Row 4 tchC w p.ta p.ts
  gl : p.gs.length ≤ 8
  tl : p.ts.length ≤ 8
theorem Rd.gw {w : World} {p : PS} (h : Rd w p) (q : Regrown) : Rd (gw w q) p := ⟨h.gs.gw q, h.ts.gw q, h.gl, h.tl⟩
theorem Rd.below {w w' : World} {p : PS} (h : Rd w p) (hb : Below w.heap.size w w') : Rd w' p := ⟨h.gs.below hb, h.ts.below hb, h.gl, h.tl⟩

def tdep (x y : Tch) : Bool := x.1 == y.1 && x.2.1 == y.2.1 && x.2.2.1 == y.2.2.1 && (x.2.2.2 || y.2.2.2)
def dep (p q : PS) : Bool := p.gs.any (fun a => q.gs.any (fun b => a == b)) || p.ts.any (fun x => q.ts.any (fun y => tdep x y))

theorem Row.get {α : Type} {n : Nat} {f : α → List Value} {w : World} {ad : Option Addr} {l : List α} (h : Row n f w ad l) {k : Nat} {x : α} (hk : l[k]? = some x) :
    ∃ b off, ad = some ⟨b, off, none⟩ ∧ Old b w ∧ ∀ i, i < n → w.cell? ⟨b, off + k * n + i, none⟩ = (f x)[i]? := by
  obtain ⟨h1, rfl⟩ := List.getElem?_eq_some_iff.1 hk
  exact h.at h1
theorem get_some {α : Type} {l : List α} {k : Nat} (h : k < l.length) : ∃ x, l[k]? = some x := ⟨_, List.getElem?_eq_getElem h⟩
theorem any_take {α : Type} {l : List α} (f : α → Bool) {k : Nat} {x : α} (h : l[k]? = some x) : (l.take (k + 1)).any f = ((l.take k).any f || f x) := by
  obtain ⟨h1, rfl⟩ := List.getElem?_eq_some_iff.1 h
  rw [List.take_succ_eq_append_getElem h1, List.any_append]; simp
theorem any_at {α : Type} {l : List α} (f : α → Bool) {k : Nat} {x : α} (h : l[k]? = some x) (hf : f x = true) : l.any f = true := List.any_eq_true.2 ⟨_, List.mem_of_getElem? h, hf⟩
theorem any_full {α : Type} {l : List α} {f : α → Bool} {k : Nat} (h : ¬ k < l.length) (hf : (l.take k).any f = false) : l.any f = false := by rwa [List.take_of_length_le (by omega)] at hf

theorem back_gw (w : World) (q p : Regrown) : ∃ q', gw (gw w q) p = gw w q' := ⟨_, gw_gw w q p⟩

set_option maxRecDepth 100000 in
set_option maxHeartbeats 2000000 in
theorem dependR_any (p q : PS) (w : World) (hp : Rd w p) (hq : Rd w q) :
    Calls Try.prog 18 #[stv p, stv q] w (Gives (.bool (dep p q)) w) := by
  have HP := Lib.hid hp; clear hp
  have HQ := Lib.hid hq; clear hq
  have hpg := HP.out.gl
  have hpt := HP.out.tl
  have hqg := HQ.out.gl
  have hqt := HQ.out.tl
  obtain ⟨X, hX⟩ : ∃ X, X = (w.alloc (.cells (stC p).toArray 30)).alloc (.cells (stC q).toArray 30) := ⟨_, rfl⟩
  have HB : Hid (Below w.heap.size w X) := Lib.hid (by rw [hX]; exact (by repeat (first | exact Below.refl _ _ | refine below_gw ?_ (by simp; try omega) _ | refine Below.alloc ?_ (by simp; try omega) _ | refine Below.setCell ?_ (by simp; try omega) _ | refine Below.drew ?_)))
  have b0 : X.cell? ⟨w.heap.size, 2, none⟩ = some (.slice p.ga p.gs.length p.gc) := by rw [hX]; simp [go_sem]
  have b1 : X.cell? ⟨w.heap.size, 3, none⟩ = some (.slice p.ta p.ts.length p.tc) := by rw [hX]; simp [go_sem]
  have b2 : X.cell? ⟨w.heap.size + 1, 2, none⟩ = some (.slice q.ga q.gs.length q.gc) := by rw [hX]; simp [go_sem]
  have b3 : X.cell? ⟨w.heap.size + 1, 3, none⟩ = some (.slice q.ta q.ts.length q.tc) := by rw [hX]; simp [go_sem]
  have o0 : Old w.heap.size X := Old.of_cell b0
  have o1 : Old (w.heap.size + 1) X := Old.of_cell b2
  go_enter Try.func18, Try.ntmps18
  go_wp2
  rw [← hX]
  clear hX
  go_loopw [5] (fun i wr => ∃ k : Nat, ∃ r, k ≤ p.gs.length ∧ i = .int .i64 k ∧ Hid ((p.gs.take k).any (fun a => q.gs.any (fun b => a == b)) = false) ∧ wr = gw X r) (fun i _ => p.gs.length - (intOf i).toNat)
  case atStart => exact ⟨0, _, by omega, rfl, Lib.hid rfl, gw_self _⟩
  case round =>
    obtain ⟨k, r, hk, rfl, hf, rfl⟩ := hrel
    by_cases hlt : k < p.gs.length
    · have kb : (k : Int) < p.gs.length := by omega
      obtain ⟨x, hx⟩ := get_some hlt
      obtain ⟨bp, op, ep, hop, fp⟩ := (HP.out.gs.below HB.out).get hx
      have fp := fp 0 (by omega)
      simp at fp
      have HX := Lib.hid hx
      clear hx
      go_wp2
      go_loopw [6] (fun i wr => ∃ j : Nat, ∃ r, j ≤ q.gs.length ∧ i = .int .i64 j ∧ Hid ((q.gs.take j).any (fun b => x == b) = false) ∧ wr = gw X r) (fun i _ => q.gs.length - (intOf i).toNat)
      case atStart => exact ⟨0, _, by omega, rfl, Lib.hid rfl, rfl⟩
      case round =>
        obtain ⟨j, r, hj, rfl, hg, rfl⟩ := hrel
        by_cases hjt : j < q.gs.length
        · have jb : (j : Int) < q.gs.length := by omega
          obtain ⟨y, hy⟩ := get_some hjt
          obtain ⟨bq, oq, eq, hoq, fq⟩ := (HQ.out.gs.below HB.out).get hy
          have fq := fq 0 (by omega)
          simp at fq
          have HY := Lib.hid hy
          clear hy
          rw [ep] at b0
          rw [eq] at b2
          by_cases hxy : x = y
          · subst hxy
            have he := Lib.hid (show dep p q = true by
              rw [dep, any_at _ HX.out (any_at (fun b => x == b) HY.out (by simp))]; rfl)
            go_wp2
            refine wp_region_gw (by kernel_rfl) (by kernel_rfl) ?_
            repeat (quiet_step (first | fail))
            refine wpQuiet_nil ?_
            intro _ hw'
            obtain ⟨p1, hw''⟩ := hw'
            subst hw''
            go_wp2
            go_ret; exact Gives.mk (by rw [he.out]; rfl) (by have hb' := HB.out; have hs' := HB.out.size; repeat (first | exact hb' | refine below_gw ?_ (by first | (simp; done) | (simp; omega) | omega) _ | refine Below.alloc ?_ (by first | (simp; done) | (simp; omega) | omega) _ | refine Below.setCell ?_ (by first | (simp; done) | (simp; omega) | omega) | refine Below.drew ?_))
          · have hb : (x == y) = false := by simp [hxy]
            clear hxy
            go_wp2
            refine wp_region_gw (by kernel_rfl) (by kernel_rfl) ?_
            repeat (quiet_step (first | fail))
            refine wpQuiet_nil ?_
            intro _ hw'
            obtain ⟨p1, hw''⟩ := hw'
            subst hw''
            go_wp2
            go_roundw
            case rel =>
              obtain ⟨r', hr'⟩ := back_gw X r p1
              exact ⟨j + 1, r', by omega, by go_num, Lib.hid (by rw [any_take _ HY.out, hg.out]; exact hb), hr'⟩
            case measure => simp [intOf]; omega
        · go_wp2
          go_roundw
          case rel => exact ⟨k + 1, r, by omega, by go_num, Lib.hid (by rw [any_take _ HX.out, hf.out, any_full hjt hg.out]; rfl), rfl⟩
          case measure => simp [intOf]; omega
    · have HF := Lib.hid (any_full hlt hf.out)
      clear hf
      go_wp2
      go_loopw [7] (fun i wr => ∃ k : Nat, ∃ r, k ≤ p.ts.length ∧ i = .int .i64 k ∧ Hid ((p.ts.take k).any (fun a => q.ts.any (fun b => tdep a b)) = false) ∧ wr = gw X r) (fun i _ => p.ts.length - (intOf i).toNat)
      case atStart => exact ⟨0, _, by omega, rfl, Lib.hid rfl, rfl⟩
      case round =>
      clear hlt hk
      obtain ⟨k, r, hk, rfl, hfk, rfl⟩ := hrel
      by_cases hlt : k < p.ts.length
      · have kb : (k : Int) < p.ts.length := by omega
        obtain ⟨⟨x1, x2, x3, x4⟩, hx⟩ := get_some hlt
        obtain ⟨bp, op, ep, hop, fp⟩ := (HP.out.ts.below HB.out).get hx
        have f0 := fp 0 (by omega)
        have f1 := fp 1 (by omega)
        have f2 := fp 2 (by omega)
        have f3 := fp 3 (by omega)
        simp at f0 f1 f2 f3
        rw [ep] at b1
        have HX := Lib.hid hx
        clear hx fp
        go_wp2
        go_loopw [8] (fun i wr => ∃ j : Nat, ∃ r, j ≤ q.ts.length ∧ i = .int .i64 j ∧ Hid ((q.ts.take j).any (fun b => tdep (x1, x2, x3, x4) b) = false) ∧ wr = gw X r) (fun i _ => q.ts.length - (intOf i).toNat)
        case atStart => exact ⟨0, _, by omega, rfl, Lib.hid rfl, rfl⟩
        case round =>
        obtain ⟨j, r, hj, rfl, hg, rfl⟩ := hrel
        by_cases hjt : j < q.ts.length
        · have jb : (j : Int) < q.ts.length := by omega
          obtain ⟨⟨y1, y2, y3, y4⟩, hy⟩ := get_some hjt
          obtain ⟨bq, oq, eq, hoq, fq⟩ := (HQ.out.ts.below HB.out).get hy
          have g0 := fq 0 (by omega)
          have g1 := fq 1 (by omega)
          have g2 := fq 2 (by omega)
          have g3 := fq 3 (by omega)
          simp at g0 g1 g2 g3
          rw [eq] at b3
          have HY := Lib.hid hy
          clear hy fq
          have HXX := Lib.hid (Below.refl X.heap.size X)
          obtain ⟨d, hd⟩ : ∃ d, tdep (x1, x2, x3, x4) (y1, y2, y3, y4) = d := ⟨_, rfl⟩
          have HN := Lib.hid hd
          clear hd
          by_cases h1 : x1 = y1
          · subst h1
            by_cases h2 : x2 = y2
            · subst h2
              by_cases h3 : x3 = y3
              · subst h3
                cases x4
                · cases y4
                  · obtain rfl : d = false := by rw [← HN.out]; simp [tdep]
                    go_wp2
                    obtain ⟨r', hr'⟩ := gw_of_below (w := X) (w' := ((gw X r).alloc (.cells #[.int .i64 x1, .int .i64 x2, .int .i64 x3, .bool false] 70)).alloc (.cells #[.int .i64 x1, .int .i64 x2, .int .i64 x3, .bool false] 70)) (by have hb' := HXX.out; have hs' := HXX.out.size; repeat (first | exact hb' | refine below_gw ?_ (by first | (simp; done) | (simp; omega) | omega) _ | refine Below.alloc ?_ (by first | (simp; done) | (simp; omega) | omega) _ | refine Below.setCell ?_ (by first | (simp; done) | (simp; omega) | omega) | refine Below.drew ?_))
                    exact ⟨⟨j + 1, r', by omega, by go_num, Lib.hid (by rw [any_take _ HY.out, hg.out, HN.out]; rfl), hr'⟩, by simp [intOf]; omega⟩
                  · have he := Lib.hid (show dep p q = true by
                      rw [dep, any_at (l := p.ts) _ HX.out (any_at _ HY.out (by simp [tdep]))]; simp)
                    go_wp2
                    go_ret; exact Gives.mk (by rw [he.out]; rfl) (by have hb' := HB.out; have hs' := HB.out.size; repeat (first | exact hb' | refine below_gw ?_ (by first | (simp; done) | (simp; omega) | omega) _ | refine Below.alloc ?_ (by first | (simp; done) | (simp; omega) | omega) _ | refine Below.setCell ?_ (by first | (simp; done) | (simp; omega) | omega) | refine Below.drew ?_))
                · have he := Lib.hid (show dep p q = true by
                    rw [dep, any_at (l := p.ts) _ HX.out (any_at _ HY.out (by simp [tdep]))]; simp)
                  go_wp2
                  go_ret; exact Gives.mk (by rw [he.out]; rfl) (by have hb' := HB.out; have hs' := HB.out.size; repeat (first | exact hb' | refine below_gw ?_ (by first | (simp; done) | (simp; omega) | omega) _ | refine Below.alloc ?_ (by first | (simp; done) | (simp; omega) | omega) _ | refine Below.setCell ?_ (by first | (simp; done) | (simp; omega) | omega) | refine Below.drew ?_))
              · obtain rfl : d = false := by rw [← HN.out]; simp [tdep, h3]
                have hb : (x3 == y3) = false := by simp [h3]
                clear h3
                go_wp2
                obtain ⟨r', hr'⟩ := gw_of_below (w := X) (w' := ((gw X r).alloc (.cells #[.int .i64 x1, .int .i64 x2, .int .i64 x3, .bool x4] 70)).alloc (.cells #[.int .i64 x1, .int .i64 x2, .int .i64 y3, .bool y4] 70)) (by have hb' := HXX.out; have hs' := HXX.out.size; repeat (first | exact hb' | refine below_gw ?_ (by first | (simp; done) | (simp; omega) | omega) _ | refine Below.alloc ?_ (by first | (simp; done) | (simp; omega) | omega) _ | refine Below.setCell ?_ (by first | (simp; done) | (simp; omega) | omega) | refine Below.drew ?_))
                exact ⟨⟨j + 1, r', by omega, by go_num, Lib.hid (by rw [any_take _ HY.out, hg.out, HN.out]; rfl), hr'⟩, by simp [intOf]; omega⟩
            · obtain rfl : d = false := by rw [← HN.out]; simp [tdep, h2]
              have hb : (x2 == y2) = false := by simp [h2]
              clear h2
              go_wp2
              obtain ⟨r', hr'⟩ := gw_of_below (w := X) (w' := ((gw X r).alloc (.cells #[.int .i64 x1, .int .i64 x2, .int .i64 x3, .bool x4] 70)).alloc (.cells #[.int .i64 x1, .int .i64 y2, .int .i64 y3, .bool y4] 70)) (by have hb' := HXX.out; have hs' := HXX.out.size; repeat (first | exact hb' | refine below_gw ?_ (by first | (simp; done) | (simp; omega) | omega) _ | refine Below.alloc ?_ (by first | (simp; done) | (simp; omega) | omega) _ | refine Below.setCell ?_ (by first | (simp; done) | (simp; omega) | omega) | refine Below.drew ?_))
              exact ⟨⟨j + 1, r', by omega, by go_num, Lib.hid (by rw [any_take _ HY.out, hg.out, HN.out]; rfl), hr'⟩, by simp [intOf]; omega⟩
          · obtain rfl : d = false := by rw [← HN.out]; simp [tdep, h1]
            have hb : (x1 == y1) = false := by simp [h1]
            clear h1
            go_wp2
            obtain ⟨r', hr'⟩ := gw_of_below (w := X) (w' := ((gw X r).alloc (.cells #[.int .i64 x1, .int .i64 x2, .int .i64 x3, .bool x4] 70)).alloc (.cells #[.int .i64 y1, .int .i64 y2, .int .i64 y3, .bool y4] 70)) (by have hb' := HXX.out; have hs' := HXX.out.size; repeat (first | exact hb' | refine below_gw ?_ (by first | (simp; done) | (simp; omega) | omega) _ | refine Below.alloc ?_ (by first | (simp; done) | (simp; omega) | omega) _ | refine Below.setCell ?_ (by first | (simp; done) | (simp; omega) | omega) | refine Below.drew ?_))
            exact ⟨⟨j + 1, r', by omega, by go_num, Lib.hid (by rw [any_take _ HY.out, hg.out, HN.out]; rfl), hr'⟩, by simp [intOf]; omega⟩
        · go_wp2
          go_roundw
          case rel => exact ⟨k + 1, r, by omega, by go_num, Lib.hid (by rw [any_take _ HX.out, hfk.out, any_full hjt hg.out]; rfl), rfl⟩
          case measure => simp [intOf]; omega
      · have he := Lib.hid (show dep p q = false by rw [dep, HF.out, any_full hlt hfk.out]; rfl)
        go_wp2
        go_ret; exact Gives.mk (by rw [he.out]; rfl) (by have hb' := HB.out; have hs' := HB.out.size; repeat (first | exact hb' | refine below_gw ?_ (by first | (simp; done) | (simp; omega) | omega) _ | refine Below.alloc ?_ (by first | (simp; done) | (simp; omega) | omega) _ | refine Below.setCell ?_ (by first | (simp; done) | (simp; omega) | omega) | refine Below.drew ?_))

end Go.Proofs.Ytmgiojkdcpolfaa
