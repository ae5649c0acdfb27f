/- Few. -/
import Derived.Test.YtmgiojkdcpolfaaPh
namespace Go.Proofs.Ytmgiojkdcpolfaa
open Go.RowKit Go.Sort

def fewS (s : PS) : Bool := decide (s.gs.length ≤ 8) && decide (s.ts.length ≤ 8)
def fewQ (q : PA) : Bool := decide (q.l.length ≤ 8) && q.l.all fewS
def few (ps : List PA) : Bool := decide (ps.length ≤ 8) && ps.all fewQ
theorem all_no {α : Type} {l : List α} {f : α → Bool} {k : Nat} {x : α} (h : l[k]? = some x) (hf : f x = false) : l.all f = false := List.all_eq_false.2 ⟨x, List.mem_of_getElem? h, by simp [hf]⟩
theorem all_step {α : Type} {l : List α} {f : α → Bool} {k : Nat} {x : α} (hk : (l.take k).all f = true) (h : l[k]? = some x) (hf : f x = true) : (l.take (k + 1)).all f = true := by
  obtain ⟨h3, h4⟩ := List.getElem?_eq_some_iff.1 h
  rw [List.take_succ_eq_append_getElem h3, List.all_append, hk, h4]; simp [hf]
theorem all_full {α : Type} {l : List α} {f : α → Bool} {k : Nat} (hk : (l.take k).all f = true) (h : ¬ k < l.length) : l.all f = true := by
  rwa [List.take_of_length_le (by omega)] at hk
theorem few_no {ps : List PA} {k : Nat} {q : PA} (h : ps[k]? = some q) (hf : fewQ q = false) : false = few ps := by rw [few, all_no h hf, Bool.and_false]

set_option maxRecDepth 100000 in
set_option maxHeartbeats 1000000 in
theorem few_any (ad : Option Addr) (ps : List PA) (cap : Nat) (w : World) (hr : Row 1 paC w ad ps) (hs : ∀ q ∈ ps, Row 4 stC w q.ad q.l) :
    Calls Try.prog 10 #[.slice ad ps.length cap] w (Gives (.bool (few ps)) w) := by
  have HR := Lib.hid hr
  have HS := Lib.hid hs
  clear hr hs
  by_cases hl : ps.length ≤ 8
  · have hd : decide ((8 : Int) < (ps.length : Int)) = false := by simp; omega
    go_enter Try.func10, Try.ntmps10
    go_wp2
    go_loopw [3] (fun i wr => ∃ k : Nat, k ≤ ps.length ∧ i = .int .i64 k ∧ Hid ((ps.take k).all fewQ = true) ∧ w = wr) (fun i _ => ps.length - (intOf i).toNat)
    case atStart => exact ⟨0, by omega, rfl, Lib.hid (by simp), rfl⟩
    case round =>
      obtain ⟨k, hk, rfl, hf, rfl⟩ := hrel
      by_cases hlt : k < ps.length
      · have kb : (k : Int) < ps.length := by omega
        obtain ⟨⟨qa, ql, qc⟩, hx⟩ := get_some hlt
        obtain ⟨b, off, rfl, ho, hc⟩ := HR.out.get hx
        have f0 := hc 0 (by omega)
        simp [paV] at f0
        have HX := Lib.hid hx
        have hq := HS.out _ (List.mem_of_getElem? hx)
        simp only at hq
        have HQ := Lib.hid hq
        clear hx hc hq
        by_cases hql : ql.length ≤ 8
        · have hqd : decide ((8 : Int) < (ql.length : Int)) = false := by simp; omega
          go_wp2
          go_loopw [4] (fun i wr => ∃ j : Nat, j ≤ ql.length ∧ i = .int .i64 j ∧ Hid ((ql.take j).all fewS = true) ∧ w = wr) (fun i _ => ql.length - (intOf i).toNat)
          case atStart => exact ⟨0, by omega, rfl, Lib.hid (by simp), rfl⟩
          case round =>
            obtain ⟨j, hj, rfl, hg, rfl⟩ := hrel
            by_cases hjt : j < ql.length
            · have jb : (j : Int) < ql.length := by omega
              obtain ⟨x, hx⟩ := get_some hjt
              obtain ⟨b', off', rfl, ho', hc⟩ := HQ.out.get hx
              have g1 := hc 2 (by omega)
              have g2 := hc 3 (by omega)
              simp at g1 g2
              have HY := Lib.hid hx
              clear hx hc
              by_cases h1 : x.gs.length ≤ 8
              · have hd1 : decide ((8 : Int) < (x.gs.length : Int)) = false := by simp; omega
                by_cases h2 : x.ts.length ≤ 8
                · have hd2 : decide ((8 : Int) < (x.ts.length : Int)) = false := by simp; omega
                  have he := Lib.hid (all_step hg.out HY.out (show fewS x = true by simp [fewS, h1, h2]))
                  clear h1 h2
                  go_wp2
                  go_roundw
                  case rel => exact ⟨j + 1, by omega, by go_num, he, by trivial⟩
                  case measure => simp [intOf]; omega
                · have hd2 : decide ((8 : Int) < (x.ts.length : Int)) = true := by simp; omega
                  have he := Lib.hid (few_no HX.out (show fewQ _ = false by rw [fewQ, all_no HY.out (show fewS x = false by simp [fewS, h2]), Bool.and_false]))
                  clear h1 h2
                  go_wp2
                  have HB := Lib.hid (Below.refl w.heap.size w)
                  go_ret; exact Gives.mk (by rw [he.out]; rfl) (by have hb' := HB.out; have hs' := HB.out.size; repeat (first | exact hb' | refine below_gw ?_ (by first | (simp; done) | (simp; omega) | omega) _ | refine Below.alloc ?_ (by first | (simp; done) | (simp; omega) | omega) _ | refine Below.setCell ?_ (by first | (simp; done) | (simp; omega) | omega) | refine Below.drew ?_))
              · have hd1 : decide ((8 : Int) < (x.gs.length : Int)) = true := by simp; omega
                have he := Lib.hid (few_no HX.out (show fewQ _ = false by rw [fewQ, all_no HY.out (show fewS x = false by simp [fewS, h1]), Bool.and_false]))
                clear h1
                go_wp2
                have HB := Lib.hid (Below.refl w.heap.size w)
                go_ret; exact Gives.mk (by rw [he.out]; rfl) (by have hb' := HB.out; have hs' := HB.out.size; repeat (first | exact hb' | refine below_gw ?_ (by first | (simp; done) | (simp; omega) | omega) _ | refine Below.alloc ?_ (by first | (simp; done) | (simp; omega) | omega) _ | refine Below.setCell ?_ (by first | (simp; done) | (simp; omega) | omega) | refine Below.drew ?_))
            · have hfull := all_full hg.out hjt
              have he := Lib.hid (all_step hf.out HX.out (show fewQ _ = true by simp only [fewQ]; rw [hfull]; simp [hql]))
              clear hfull
              go_wp2
              go_roundw
              case rel => exact ⟨k + 1, by omega, by go_num, he, by trivial⟩
              case measure => simp [intOf]; omega
        · have hqd : decide ((8 : Int) < (ql.length : Int)) = true := by simp; omega
          have he := Lib.hid (few_no HX.out (show fewQ _ = false by simp [fewQ, hql]))
          clear hql
          go_wp2
          have HB := Lib.hid (Below.refl w.heap.size w)
          go_ret; exact Gives.mk (by rw [he.out]; rfl) (by have hb' := HB.out; have hs' := HB.out.size; repeat (first | exact hb' | refine below_gw ?_ (by first | (simp; done) | (simp; omega) | omega) _ | refine Below.alloc ?_ (by first | (simp; done) | (simp; omega) | omega) _ | refine Below.setCell ?_ (by first | (simp; done) | (simp; omega) | omega) | refine Below.drew ?_))
      · have he := Lib.hid (show true = few ps by rw [few, all_full hf.out hlt]; simp [hl])
        go_wp2
        have HB := Lib.hid (Below.refl w.heap.size w)
        go_ret; exact Gives.mk (by rw [he.out]; rfl) (by have hb' := HB.out; have hs' := HB.out.size; repeat (first | exact hb' | refine below_gw ?_ (by first | (simp; done) | (simp; omega) | omega) _ | refine Below.alloc ?_ (by first | (simp; done) | (simp; omega) | omega) _ | refine Below.setCell ?_ (by first | (simp; done) | (simp; omega) | omega) | refine Below.drew ?_))
  · have hd : decide ((8 : Int) < (ps.length : Int)) = true := by simp; omega
    have he := Lib.hid (show false = few ps by simp [few, hl])
    clear hl
    go_enter Try.func10, Try.ntmps10
    go_wp2
    have HB := Lib.hid (Below.refl w.heap.size w)
    go_ret; exact Gives.mk (by rw [he.out]; rfl) (by have hb' := HB.out; have hs' := HB.out.size; repeat (first | exact hb' | refine below_gw ?_ (by first | (simp; done) | (simp; omega) | omega) _ | refine Below.alloc ?_ (by first | (simp; done) | (simp; omega) | omega) _ | refine Below.setCell ?_ (by first | (simp; done) | (simp; omega) | omega) | refine Below.drew ?_))

end Go.Proofs.Ytmgiojkdcpolfaa
