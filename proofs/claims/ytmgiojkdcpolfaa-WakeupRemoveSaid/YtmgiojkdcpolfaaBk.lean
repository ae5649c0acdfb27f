/- slices.Backward over steps. -/
import Derived.Test.YtmgiojkdcpolfaaCl
import Derived.Test.YtmgiojkdcpolfaaRv
namespace Go.Proofs.Ytmgiojkdcpolfaa
open Go.RowKit Go.Sort Go.Shelf PT

attribute [local go_sem] Oper.semAt_some

/-- Whatever is cells and lies elsewhere than bb lies as it lay. -/
def KpB (bb : Nat) (W W' : World) : Prop := ∀ k o, k ≠ bb → W.heap[k]? = some o → o.isCells = true → W'.heap[k]? = some o
theorem KpB.refl (bb : Nat) (W : World) : KpB bb W W := fun _ _ _ h _ => h
theorem KpB.trans {bb : Nat} {A B C : World} (h : KpB bb A B) (k : KpB bb B C) : KpB bb A C := fun i o hi ho hc => k i o hi (h i o hi ho hc) hc
theorem KpB.putObj {bb : Nat} (W : World) {l : Nat} {o : Obj} (o' : Obj) (hl : W.heap[l]? = some o) (hc : o.isCells = false) : KpB bb W (W.putObj l o') := fun k u _ hk hu => by
  have hne : k ≠ l := fun e => by subst e; rw [hl] at hk; cases hk; rw [hc] at hu; cases hu
  exact (World.putObj_heap_other hne).trans hk
theorem KpB.grown {bb : Nat} {W W' : World} (h : W.grownBy W' (some bb)) : KpB bb W W' := fun k o hk ho _ => (h.block k (Array.getElem?_eq_some_iff.1 ho).1 (fun e => hk (by cases e; rfl))).trans ho
theorem KpB.cell {bb : Nat} {W W' : World} (h : KpB bb W W') {a : Addr} {v : Value} (hc : W.cell? a = some v) (hne : a.block ≠ bb) : W'.cell? a = some v := by
  obtain ⟨o, ho, hco⟩ := cells_of_cell hc
  rw [← hc]
  exact World.cell?_of_block ((h _ _ hne ho hco).trans ho.symm)

theorem drop_rev {α : Type} {l : List α} {k : Nat} (h : k < l.length) : (l.drop k).reverse = (l.drop (k + 1)).reverse ++ [l[k]] := by
  rw [List.drop_eq_getElem_cons h, List.reverse_cons]

set_option maxRecDepth 100000 in
set_option maxHeartbeats 2000000 in
theorem backward_in (n : Nat) (hn : 1 ≤ n) (l bn bb cap : Nat) (ad : Option Addr) (ls : List PS) (J : List (Nat × PS) → World → Prop) (W : World) (hl : ls.length ≤ 1000)
    (hY : ∀ pre x W1, (pre.length < ls.length ∧ x.2 ∈ ls) → J pre W1 → YieldAt Fence.wide (n - 1) Try.prog l #[.int .i64 x.1, stv x.2] W1 fun e W' => e = .returned (.bool true) ∧ J (pre ++ [x]) W' ∧ KpB bb W1 W')
    (hbox : W.cell? ⟨bn, 0, none⟩ = some (.slice ad ls.length cap)) (hne : bn ≠ bb) (hrow : Row 4 stC W ad ls) (hrb : ∀ b off, ad = some ⟨b, off, none⟩ → b ≠ bb) (h0 : J [] W) :
    CallsIn Fence.wide n Try.prog 86 #[.func (.yield l) #[] #[], .pointer (some ⟨bn, 0, none⟩)] W fun e W' => (∃ v, e = .returned v) ∧ ∃ xs : List (Nat × PS), xs.map (·.2) = ls.reverse ∧ J xs W' := by
  have HR := Lib.hid hrow
  have HRB := Lib.hid hrb
  have HY := Lib.hid hY
  clear hrow hrb hY
  have hro : Fence.wide.round = none := rfl
  refine callsIn_of_wp Try.func86 rfl trivial ?_ hro
  simp only [Try.ntmps86, List.size_toArray, List.length_cons, List.length_nil, Nat.reduceAdd, Nat.reduceSub, Array.replicate_succ, Array.replicate_zero, List.push_toArray, List.append_toArray, List.nil_append, List.cons_append]
  gi_wp2
  gi_loopw [3] (fun i wr => ∃ (k : Nat) (pre : List (Nat × PS)), k ≤ ls.length ∧ i = .int .i64 ((k : Int) - 1) ∧ Hid (pre.map (·.2) = (ls.drop k).reverse) ∧ Hid (J pre wr) ∧ Hid (KpB bb W wr)) (fun i _ => (intOf i + 1).toNat)
  case atStart => exact ⟨ls.length, [], Nat.le_refl _, rfl, Lib.hid (by simp), Lib.hid h0, Lib.hid (KpB.refl _ _)⟩
  case round =>
    obtain ⟨k, pre, hk, rfl, hp, hj, hkp⟩ := hrel
    have hpl : pre.length = ls.length - k := by have := congrArg List.length hp.out; simpa using this
    by_cases hlt : 0 < k
    · have hk1 : k - 1 < ls.length := by omega
      obtain ⟨x, hx⟩ := get_some hk1
      obtain ⟨b, off, rfl, ho, hc⟩ := HR.out.get hx
      have hbn := HRB.out b off rfl
      have f0 := hkp.out.cell (hc 0 (by omega)) hbn
      have f1 := hkp.out.cell (hc 1 (by omega)) hbn
      have f2 := hkp.out.cell (hc 2 (by omega)) hbn
      have f3 := hkp.out.cell (hc 3 (by omega)) hbn
      simp at f0 f1 f2 f3
      have c0 := hkp.out.cell hbox hne
      have kz : (0 : Int) ≤ (k : Int) - 1 := by omega
      have kt : ((k : Int) - 1).toNat = k - 1 := by omega
      have kb : ((k : Int) - 1) < ls.length := by omega
      have HX := Lib.hid hx
      obtain ⟨fn, tmps, assign, body, hy, hR⟩ := HY.out pre (k - 1, x) wr ⟨by omega, List.mem_of_getElem? hx⟩ hj.out
      clear hx hc hbn hpl
      rw [show (((k - 1, x) : Nat × PS).1 : Int) = (k : Int) - 1 by simp; omega] at hy
      simp only [stv] at hy
      gi_wp2
      refine hR.mono ?_
      rintro e W3 ⟨rfl, hJ3, hk3⟩
      have HJ3 := Lib.hid hJ3
      have HK3 := Lib.hid (hkp.out.trans hk3)
      clear hJ3 hk3 f0 f1 f2 f3 c0 hy
      gi_wp2
      go_roundw
      case rel => exact ⟨k - 1, pre ++ [(k - 1, x)], by omega, by congr 1; omega, Lib.hid (by rw [List.map_append, hp.out, List.map_singleton, drop_rev hk1, show k - 1 + 1 = k by omega, (List.getElem?_eq_some_iff.1 HX.out).2]), HJ3, HK3⟩
      case measure => simp [intOf]; omega
    · obtain rfl : k = 0 := by omega
      gi_wp2
      go_end0
      exact ⟨⟨_, rfl⟩, pre, by rw [hp.out]; rfl, hj.out⟩

end Go.Proofs.Ytmgiojkdcpolfaa
