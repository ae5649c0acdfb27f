/- A change to the given memory. -/
import Derived.Test.YtioajmhfofmdoaaSt
import Derived.Test.YtioajmhfofmdoaaPg
import Derived.Test.YtioajmhfofmdoaaRi
namespace Go.Proofs.Ytioajmhfofmdoaa
open Go.RowKit Go.Sort Go.Maps

theorem setOut_any (bm : Nat) (o f : Int) (x : Wd) (w : World) (h : usM o f = false) : Calls Try.prog 23 #[.pointer (some ⟨bm, 0, none⟩), locv o f, wv x] w (Gives (.tuple #[]) w) := by
  have qz : ∀ w, (binOp .eql 37 (wv wz) (wv x)).run Try.prog w = .ok (.bool (wdE wz x)) w := fun w => run_eql_wd wz x w
  have HU := Lib.hid (fun w => (by have := usable_any o f w; rwa [h] at this : Calls Try.prog 25 #[locv o f] w (Gives (.bool false) w)))
  have HG := Lib.hid (fun w => getOut_any (.pointer (some ⟨bm, 0, none⟩)) o f w h bm rfl)
  clear h
  generalize wdE wz x = z at *
  cases z
  all_goals
    go_enter Try.func23, Try.ntmps23
    go_wp2
    refine wp_region_gw (by kernel_rfl) (by kernel_rfl) ?_
    repeat (quiet_step (first | (go_at_call 13; exact Gives.call (HG.out _)) | (go_at_call 25; exact Gives.call (HU.out _))))
    refine wpQuiet_nil ?_
    intro _ hw'
    obtain ⟨p1, hw''⟩ := hw'
    subst hw''
    go_wp2
    (try simp only [Exit.inBlock, Exit.then]); exact bodyPost_ret (results_none rfl _ _ _) rfl (Gives.mk rfl (by repeat (first | exact Below.refl _ _ | refine below_gw ?_ (by simp; try omega) _ | refine Below.alloc ?_ (by simp; try omega) _ | refine Below.setCell ?_ (by simp; try omega) _ | refine Below.drew ?_)))

abbrev I64 (x : Int) : Prop := -9223372036854775808 ≤ x ∧ x ≤ 9223372036854775807

theorem doL_any {T : Nat → Prop} {B : Nat} {w : World} {bm bp tk n : Nat} {D : DataW Nat} {M : Int → Int → Wd} {l : List Ent} (h : MemAt T B w bm bp tk n D M) (hr : Rel M l) (o f : Int) (x : Wd) (d : Bool) (ho : I64 o) (hf : I64 f) (hn : n ≤ 1000) :
    Calls Try.prog 11 #[.pointer (some ⟨bm, 0, none⟩), opv o f x d] w fun e w' => e = .returned (.tuple #[]) ∧ ∃ n' D' M', n' ≤ n + 1 ∧ MemAt T B w' bm bp tk n' D' M' ∧ Rel M' (doM l (chOf o f x d)) ∧ Fr tk bp w w' ∧ Below B w w' := by
  have hBw : B ≤ w.heap.size := by have := h.mine.1; have := (Array.getElem?_eq_some_iff.1 h.cell).1; omega
  have hw : Below w.heap.size w (w.alloc (.cells #[.int .i64 o, .int .i64 f, .int .i64 x.g, .int .i64 x.n, .bool x.s, .int .i64 x.rg, .int .i64 x.rn, .int .i64 (x.c 0), .int .i64 (x.c 1), .int .i64 (x.c 2), .int .i64 (x.c 3), .int .i64 (x.c 4), .int .i64 (x.c 5), .int .i64 (x.c 6), .int .i64 (x.c 7), .bool d] 39)) := (by repeat (first | exact Below.refl _ _ | refine below_gw ?_ (by simp; try omega) _ | refine Below.alloc ?_ (by simp; try omega) _ | refine Below.setCell ?_ (by simp; try omega) _ | refine Below.drew ?_))
  have hW := h.below hw
  cases d
  · by_cases hu : usM o f = true
    · have hu2 : 0 ≤ o ∧ 0 ≤ f := by simpa [usM] using hu
      have HS := Lib.hid (setIn_any hW o (f / 16).toNat (f % 16).toNat x (by omega) ⟨hu2.1, ho.2⟩ (by omega) hn)
      rw [show (((f / 16).toNat : Int) * 16 + ((f % 16).toNat : Int)) = f by omega, show (((f / 16).toNat * 16 + (f % 16).toNat : Nat) : Int) = f by omega] at HS
      have HR := Lib.hid hr
      clear hW hr h
      go_enter Try.func11, Try.ntmps11
      go_wp2_with (go_at_call 23; refine HS.out.mono ?_; rintro e w1 ⟨rfl, n', D', M2, h1, h2, h3, h4, h5⟩; have HE := Lib.hid (And.intro h1 (And.intro h2 (And.intro h3 (And.intro h4 h5)))); clear h1 h2 h3 h4 h5)
      (try simp only [Exit.inBlock, Exit.then])
      obtain ⟨h1, h2, h3, h4, h5⟩ := HE.out
      (first | refine bodyPost_ret (results_none rfl _ _ _) rfl ?_ | refine bodyPost_end (results_none rfl _ _ _) rfl ?_)
      exact ⟨rfl, n', D', M2, h1, h2, rel_set HR.out (by omega) h3, (Fr.of_below hw).trans h4, (hw.mono hBw).trans h5⟩
    · have hu' : usM o f = false := by simpa using hu
      have HS := Lib.hid (fun w => setOut_any bm o f x w hu')
      have HR := Lib.hid hr
      have HM := Lib.hid h
      have hset : setM l o f x = l := by
        unfold setM
        rw [if_pos]
        have : ¬ (0 ≤ o ∧ 0 ≤ f) := by simpa [usM] using hu
        omega
      clear hW hr h hu hw
      go_enter Try.func11, Try.ntmps11
      go_wp2_with (go_at_call 23; refine (HS.out _).mono ?_; rintro e w1 ⟨rfl, p1, rfl⟩)
      (try simp only [Exit.inBlock, Exit.then])
      have hb : Below w.heap.size w (gw (w.alloc (.cells #[.int .i64 o, .int .i64 f, .int .i64 x.g, .int .i64 x.n, .bool x.s, .int .i64 x.rg, .int .i64 x.rn, .int .i64 (x.c 0), .int .i64 (x.c 1), .int .i64 (x.c 2), .int .i64 (x.c 3), .int .i64 (x.c 4), .int .i64 (x.c 5), .int .i64 (x.c 6), .int .i64 (x.c 7), .bool false] 39)) p1) := (by repeat (first | exact Below.refl _ _ | refine below_gw ?_ (by simp; try omega) _ | refine Below.alloc ?_ (by simp; try omega) _ | refine Below.setCell ?_ (by simp; try omega) _ | refine Below.drew ?_))
      (first | refine bodyPost_ret (results_none rfl _ _ _) rfl ?_ | refine bodyPost_end (results_none rfl _ _ _) rfl ?_)
      exact ⟨rfl, n, D, M, by omega, HM.out.below hb, by rw [show doM l (chOf o f x false) = setM l o f x from rfl, hset]; exact HR.out, Fr.of_below hb, hb.mono hBw⟩
  · have HS := Lib.hid (clearL_any hW o)
    have HR := Lib.hid hr
    clear hW hr h
    go_enter Try.func11, Try.ntmps11
    go_wp2_with (go_at_call 18; refine HS.out.mono ?_; rintro e w1 ⟨rfl, D', h2, h4, h5⟩; have HE := Lib.hid (And.intro h2 (And.intro h4 h5)); clear h2 h4 h5)
    (try simp only [Exit.inBlock, Exit.then])
    obtain ⟨h2, h4, h5⟩ := HE.out
    (first | refine bodyPost_ret (results_none rfl _ _ _) rfl ?_ | refine bodyPost_end (results_none rfl _ _ _) rfl ?_)
    exact ⟨rfl, n, D', _, by omega, h2, rel_clear HR.out o, (Fr.of_below hw).trans h4, (hw.mono hBw).trans h5⟩

end Go.Proofs.Ytioajmhfofmdoaa
