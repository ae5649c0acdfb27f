/- A nil memory lists nothing; ShadowNil: the walk. -/
import Derived.Test.YtioajmhfofmdoaaRy
import Derived.Test.YtioajmhfofmdoaaAw
import Derived.Test.YtioajmhfofmdoaaDn
namespace Go.Proofs.Ytioajmhfofmdoaa
open Go.RowKit Go.Sort Go.Maps Go.Shelf

attribute [local go_sem] Oper.semAt_some

theorem locNil_in (F : Fence) (n : Nat) (h27 : F.fn 27) (hro : F.round = none) (Bm : Nat) (y : Value) (W : World) (hm : W.cell? ⟨Bm, 0, none⟩ = some (.pointer none)) :
    CallsIn F n Try.prog 27 #[y, .pointer (some ⟨Bm, 0, none⟩)] W fun e W' => (∃ v, e = .returned v) ∧ W' = W := by
  refine callsIn_of_wp Try.func27 rfl h27 ?_ hro
  simp only [Try.ntmps27, List.size_toArray, List.length_cons, List.length_nil, Nat.reduceAdd, Nat.reduceSub, Array.replicate_succ, Array.replicate_zero, List.push_toArray, List.append_toArray, List.nil_append, List.cons_append]
  gi_wp2
  (first | refine bodyPost_ret (results_none rfl _ _ _) rfl ?_ | refine bodyPost_end (results_none rfl _ _ _) rfl ?_)
  exact ⟨⟨_, rfl⟩, rfl⟩
theorem loc_in (F : Fence) (n : Nat) (h21 : F.fn 21) (hro : F.round = none) (pm : Option Addr) (w : World) :
    CallsIn F n Try.prog 21 #[.pointer pm] w fun e w' => e = .returned (.func (.func 27) #[] #[.pointer (some ⟨w.heap.size, 0, none⟩)]) ∧ w' = w.alloc (.cells #[.pointer pm] 26) := by
  refine callsIn_of_wp Try.func21 rfl h21 ?_ hro
  simp only [Try.ntmps21, List.size_toArray, List.length_cons, List.length_nil, Nat.reduceAdd, Nat.reduceSub, Array.replicate_succ, Array.replicate_zero, List.push_toArray, List.append_toArray, List.nil_append, List.cons_append]
  gi_wp2
  go_ret
  exact ⟨rfl, rfl⟩

set_option maxRecDepth 100000 in
set_option maxHeartbeats 2000000 in
theorem listedNil_in (F : Fence) (n : Nat) (h19 : F.fn 19) (h21 : F.fn 21) (h27 : F.fn 27) (hro : F.round = none) (hn : 3 ≤ n) (w : World) :
    CallsIn F n Try.prog 19 #[.pointer none, .slice none 0 0] w (Gives (.bool true) w) := by
  have h1 : 1 ≤ n := by omega
  refine callsIn_of_wp_marks Try.func19 rfl h19 ?_ hro
  simp only [Try.ntmps19, List.size_toArray, List.length_cons, List.length_nil, Nat.reduceAdd, Nat.reduceSub, Array.replicate_succ, Array.replicate_zero, List.push_toArray, List.append_toArray, List.nil_append, List.cons_append]
  gi_wp2_with (gi_at_call 21; refine (loc_in F (n - 1) h21 hro _ _).mono ?_; rintro e w' ⟨rfl, rfl⟩)
  have hb0 : Below w.heap.size w ((((w.alloc (.cells #[.slice none 0 0] 29)).alloc (.cells #[.bool false] 4)).alloc (.cells #[.int .i64 0] 3)).alloc (.cells #[.pointer none] 26)) := (by repeat (first | exact Below.refl _ _ | refine below_gw ?_ (by simp; try omega) _ | refine Below.alloc ?_ (by simp; try omega) _ | refine Below.setCell ?_ (by simp; try omega) _ | refine Below.drew ?_))
  have b0 : Boxed ((((w.alloc (.cells #[.slice none 0 0] 29)).alloc (.cells #[.bool false] 4)).alloc (.cells #[.int .i64 0] 3)).alloc (.cells #[.pointer none] 26)) w.heap.size 29 (.slice none 0 0) := (((Boxed.new w _ _).alloc _).alloc _).alloc _
  have b1 : Boxed ((((w.alloc (.cells #[.slice none 0 0] 29)).alloc (.cells #[.bool false] 4)).alloc (.cells #[.int .i64 0] 3)).alloc (.cells #[.pointer none] 26)) (w.heap.size + 1) 4 (.bool false) := by
    have := ((Boxed.new (w.alloc (.cells #[.slice none 0 0] 29)) 4 (.bool false)).alloc (.cells #[.int .i64 0] 3)).alloc (.cells #[.pointer none] 26)
    rwa [World.size_alloc] at this
  have b2 : Boxed ((((w.alloc (.cells #[.slice none 0 0] 29)).alloc (.cells #[.bool false] 4)).alloc (.cells #[.int .i64 0] 3)).alloc (.cells #[.pointer none] 26)) (w.heap.size + 1 + 1) 3 (.int .i64 0) := by
    have := (Boxed.new ((w.alloc (.cells #[.slice none 0 0] 29)).alloc (.cells #[.bool false] 4)) 3 (.int .i64 0)).alloc (.cells #[.pointer none] 26)
    rwa [World.size_alloc, World.size_alloc] at this
  have b3 : Boxed ((((w.alloc (.cells #[.slice none 0 0] 29)).alloc (.cells #[.bool false] 4)).alloc (.cells #[.int .i64 0] 3)).alloc (.cells #[.pointer none] 26)) (w.heap.size + 1 + 1 + 1) 26 (.pointer none) := by
    have := Boxed.new (((w.alloc (.cells #[.slice none 0 0] 29)).alloc (.cells #[.bool false] 4)).alloc (.cells #[.int .i64 0] 3)) 26 (.pointer none)
    rwa [World.size_alloc, World.size_alloc, World.size_alloc] at this
  generalize ((((w.alloc (.cells #[.slice none 0 0] 29)).alloc (.cells #[.bool false] 4)).alloc (.cells #[.int .i64 0] 3)).alloc (.cells #[.pointer none] 26)) = w0 at *
  rename_i hK
  refine wpIn_rangeFunc_y (α := Int × Int) (fun _ _ => False) hro h1 (gf := 27) (lb := #[.pointer (some ⟨w.heap.size + 1 + 1 + 1, 0, none⟩)]) rfl h27 (enters_of Try.func27 (by kernel_rfl) rfl)
    (encs := fun x => #[locv x.1 x.2]) (Kp := fun _ _ _ => True) (S := fun xs => xs = []) ?seq (fun _ _ => trivial) (fun _ _ _ _ _ _ _ _ _ => trivial) (fun _ => rfl)
    (fun _ W => w0.grownBy W none) ?own ⟨rfl, rfl, rfl, Nat.le_refl _, fun _ _ _ => rfl⟩ (fun _ _ _ => False) (fun _ _ _ _ _ _ h _ _ => h.elim) (fun _ _ _ _ _ h => h.elim) (fun _ _ _ _ _ _ _ h => h.elim) ?done
  case seq =>
    intro l J W hW hJ _ h0
    refine (locNil_in F (n - 1) h27 hro (w.heap.size + 1 + 1 + 1) _ W ((hW.cell (p := ⟨_, 0, none⟩) b3.lt).trans b3.cell)).mono ?_
    rintro e W' ⟨hv, rfl⟩
    exact ⟨hv, [], rfl, h0⟩
  case own =>
    intro s A B' row hs hg hr
    exact hs.andThen hg (fun j e => .inl (hr j e).1)
  case done =>
    intro D xs W hD _ hI hKD
    have e0 := (b0.kept hI (by simp)).cell
    have e1 := (b1.kept hI (by simp)).cell
    have e2 := (b2.kept hI (by simp)).cell
    have f1 := (b1.kept hI (by simp)).frozen
    have hs0 := hb0.size
    have hs1 := hI.size
    have l3 := b3.lt
    gi_wp2
    have hset := (b1.kept hI (by simp)).set (.bool true)
    have hKD2 : (W.setCell ⟨w.heap.size + 1, 0, none⟩ (.bool true)).heap[D]? = some (.deferred (some [])) := (KeepsOthers.setCell W _ _).same D _ hKD rfl
    refine ⟨by simp, .inl ⟨_, _, rfl, run_takeDeferred hKD2, ?_⟩⟩
    have hb' := hset.kept (grownBy_putObj' _ D (.deferred none)) (by simp; omega)
    have hc := hb'.cell
    have hbW : Below w.heap.size w W := ⟨hI.os.trans hb0.os, hI.tape.trans hb0.tape, hI.output.trans hb0.output, by omega, fun k hk => (hI.block k (by omega) (by simp)).trans (hb0.block k hk)⟩
    refine ⟨.bool true, by simp [results, Try.results19, go_sem, hc], Gives.mk rfl ((hbW.setCell (p := ⟨w.heap.size + 1, 0, none⟩) (by simp) (.bool true)).trans ?_)⟩
    exact (Below.refl w.heap.size _).grown (grownBy_putObj' _ D _) (by simp; omega) (fun k e => by cases e; omega)

theorem listedNil_any (w : World) : Calls Try.prog 19 #[.pointer none, .slice none 0 0] w (Gives (.bool true) w) :=
  (callsIn_wide (n := 3)).1 (listedNil_in Fence.wide 3 trivial trivial trivial rfl (by omega) w)

set_option maxRecDepth 100000 in
set_option maxHeartbeats 2000000 in
theorem shadowNil_any (o f : Int) (x : Wd) (d : Bool) (w : World) : Calls Try.prog 8 #[opv o f x d] w (Gives (.bool true) w) := by
  have qz : ∀ w, (binOp .eql 37 (.agg #[.int .i64 0, .int .i64 0, .bool false, .int .i64 0, .int .i64 0, .int .i64 0, .int .i64 0, .int .i64 0, .int .i64 0, .int .i64 0, .int .i64 0, .int .i64 0, .int .i64 0]) (.agg #[.int .i64 0, .int .i64 0, .bool false, .int .i64 0, .int .i64 0, .int .i64 0, .int .i64 0, .int .i64 0, .int .i64 0, .int .i64 0, .int .i64 0, .int .i64 0, .int .i64 0])).run Try.prog w = .ok (.bool true) w := fun w => by
    have := run_eql_wd wz wz w
    rwa [(wdE_iff wz wz).2 rfl] at this
  have HG := Lib.hid (show ∀ w, Calls Try.prog 13 #[.pointer none, locv o f] w (Gives (.agg #[.int .i64 0, .int .i64 0, .bool false, .int .i64 0, .int .i64 0, .int .i64 0, .int .i64 0, .int .i64 0, .int .i64 0, .int .i64 0, .int .i64 0, .int .i64 0, .int .i64 0]) w) from fun w => getNil_any o f w)
  go_enter Try.func8, Try.ntmps8
  go_wp2_with (first | (go_at_call 9; refine (awake_any _).mono ?_; rintro e w1 ⟨rfl, p1, rfl⟩) | (go_at_call 11; refine (doNil_any o f x d _).mono ?_; rintro e w1 ⟨rfl, p2, rfl⟩) | (go_at_call 13; refine (HG.out _).mono ?_; rintro e w1 ⟨rfl, p3, rfl⟩) | (go_at_call 16; refine (pagesNil_any _).mono ?_; rintro e w1 ⟨rfl, p4, rfl⟩) | (go_at_call 22; refine (cloneNil_any _).mono ?_; rintro e w1 ⟨rfl, p5, rfl⟩) | (go_at_call 19; refine (listedNil_any _).mono ?_; rintro e w1 ⟨rfl, p6, rfl⟩))
  go_ret; exact Gives.mk rfl (by repeat (first | exact Below.refl _ _ | refine below_gw ?_ (by simp; try omega) _ | refine Below.alloc ?_ (by simp; try omega) _ | refine Below.setCell ?_ (by simp; try omega) _ | refine Below.drew ?_))

end Go.Proofs.Ytioajmhfofmdoaa
