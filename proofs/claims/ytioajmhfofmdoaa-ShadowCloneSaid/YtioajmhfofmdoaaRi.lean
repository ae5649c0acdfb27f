/- The document's memory: Set and Do. -/
import Derived.Test.YtioajmhfofmdoaaRh
namespace Go.Proofs.Ytioajmhfofmdoaa
open Go.RowKit Go.Sort

theorem setR_any (v : Value) (l : List Ent) (o f : Int) (x : Wd) (w : World) (h : EntT w v l) (hn : l.length ≤ 1000) :
    Calls Try.prog 24 #[v, locv o f, wv x] w fun e w' => ∃ v', e = .returned v' ∧ Below w.heap.size w w' ∧ EntT w' v' (setM l o f x) := by
  by_cases h1 : o < 0
  · have he := Lib.hid (show setM l o f x = l by unfold setM; rw [if_pos (.inl h1)])
    have HR := Lib.hid h
    obtain ⟨⟨ad, cap, rfl, hrow⟩, hty⟩ := h
    clear hrow hty
    go_enter Try.func24, Try.ntmps24
    go_wp2
    go_ret
    have hb : Below w.heap.size w ((w.alloc (.cells #[.int .i64 o, .int .i64 f] 24)).alloc (.cells (wc x) 37)) := (by repeat (first | exact Below.refl _ _ | refine below_gw ?_ (by simp; try omega) _ | refine Below.alloc ?_ (by simp; try omega) _ | refine Below.setCell ?_ (by simp; try omega) _ | refine Below.drew ?_))
    exact ⟨_, rfl, hb, by rw [he.out]; exact HR.out.below hb⟩
  · by_cases h2 : f < 0
    · have he := Lib.hid (show setM l o f x = l by unfold setM; rw [if_pos (.inr h2)])
      have HR := Lib.hid h
      obtain ⟨⟨ad, cap, rfl, hrow⟩, hty⟩ := h
      clear hrow hty
      go_enter Try.func24, Try.ntmps24
      go_wp2
      go_ret
      have hb : Below w.heap.size w ((w.alloc (.cells #[.int .i64 o, .int .i64 f] 24)).alloc (.cells (wc x) 37)) := (by repeat (first | exact Below.refl _ _ | refine below_gw ?_ (by simp; try omega) _ | refine Below.alloc ?_ (by simp; try omega) _ | refine Below.setCell ?_ (by simp; try omega) _ | refine Below.drew ?_))
      exact ⟨_, rfl, hb, by rw [he.out]; exact HR.out.below hb⟩
    · have := setR_go v l o f x w h.1 hn h1 h2
      rw [show setGo o f x l (zeroM x) = setM l o f x by unfold setM; rw [if_neg (by omega)]] at this
      refine this.mono ?_
      rintro e w' ⟨v', rfl, ho⟩
      exact ⟨_, rfl, ho.below, entT_of_own ho.own⟩

/-- A change's value: location, word, drop. -/
abbrev opv (o f : Int) (x : Wd) (d : Bool) : Value := .agg #[.int .i64 o, .int .i64 f, .int .i64 x.g, .int .i64 x.n, .bool x.s, .int .i64 x.rg, .int .i64 x.rn, .int .i64 (x.c 0), .int .i64 (x.c 1), .int .i64 (x.c 2), .int .i64 (x.c 3), .int .i64 (x.c 4), .int .i64 (x.c 5), .int .i64 (x.c 6), .int .i64 (x.c 7), .bool d]
def chOf (o f : Int) (x : Wd) (d : Bool) : Ch := if d then .drop o else .set o f x
set_option maxHeartbeats 1000000 in
theorem doR_any (v : Value) (l : List Ent) (o f : Int) (x : Wd) (d : Bool) (w : World) (h : EntT w v l) (hn : l.length ≤ 1000) :
    Calls Try.prog 12 #[v, opv o f x d] w fun e w' => ∃ v', e = .returned v' ∧ Below w.heap.size w w' ∧ EntT w' v' (doM l (chOf o f x d)) := by
  have HR := Lib.hid h
  cases d
  · have HS := Lib.hid (fun w (h : EntT w v l) => setR_any v l o f x w h hn)
    have he := Lib.hid (show doM l (chOf o f x false) = setM l o f x from rfl)
    clear h
    go_enter Try.func12, Try.ntmps12
    go_wp2_with (go_at_call 24; refine (HS.out _ (HR.out.below (by repeat (first | exact Below.refl _ _ | refine below_gw ?_ (by simp; try omega) _ | refine Below.alloc ?_ (by simp; try omega) _ | refine Below.setCell ?_ (by simp; try omega) _ | refine Below.drew ?_)))).mono ?_; rintro e w1 ⟨v', rfl, hb, hent⟩; have HB := Lib.hid hb; have HE := Lib.hid hent; clear hb hent)
    go_ret
    exact ⟨_, rfl, (show Below w.heap.size w _ from (by repeat (first | exact Below.refl _ _ | refine below_gw ?_ (by simp; try omega) _ | refine Below.alloc ?_ (by simp; try omega) _ | refine Below.setCell ?_ (by simp; try omega) _ | refine Below.drew ?_))).trans (HB.out.mono (by simp)), by rw [he.out]; exact HE.out⟩
  · have HS := Lib.hid (fun w (h : EntT w v l) => clearR_any v l o w h.1 (by omega))
    have he := Lib.hid (show doM l (chOf o f x true) = clearM l o from rfl)
    clear h
    go_enter Try.func12, Try.ntmps12
    go_wp2_with (go_at_call 20; refine (HS.out _ (HR.out.below (by repeat (first | exact Below.refl _ _ | refine below_gw ?_ (by simp; try omega) _ | refine Below.alloc ?_ (by simp; try omega) _ | refine Below.setCell ?_ (by simp; try omega) _ | refine Below.drew ?_)))).mono ?_; rintro e w1 ⟨v', rfl, hb⟩; have HB := Lib.hid hb; clear hb)
    go_ret
    exact ⟨_, rfl, (show Below w.heap.size w _ from (by repeat (first | exact Below.refl _ _ | refine below_gw ?_ (by simp; try omega) _ | refine Below.alloc ?_ (by simp; try omega) _ | refine Below.setCell ?_ (by simp; try omega) _ | refine Below.drew ?_))).trans (HB.out.below.mono (by simp)), by rw [he.out]; exact entT_of_own HB.out.own⟩

end Go.Proofs.Ytioajmhfofmdoaa
