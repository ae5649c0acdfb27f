/- slices.Collect over maps.Keys. -/
import Derived.Test.YtioajmhfofmdoaaSo
import Derived.Test.YtioajmhfofmdoaaRy
import Derived.Test.YtioajmhfofmdoaaPg
import Derived.Maps.AppendAt
namespace Go.Proofs.Ytioajmhfofmdoaa
open Go.RowKit Go.Sort Go.Maps Go.Shelf

attribute [local go_sem] Oper.semAt_some

/-- Just the keys, each once. -/
structure KeysOf (D0 : DataW Nat) (xs : List KeyT) : Prop where
  all : ∀ kl, Maps.has D0 kl = true → ∃ x ∈ xs, keyL' x = kl
  apart : xs.Pairwise fun x y => keyL' x ≠ keyL' y
  only : ∀ x ∈ xs, Maps.has D0 (keyL' x) = true
theorem KeysOf.len {D0 : DataW Nat} {xs : List KeyT} {es : List (Lit × DataW Nat)} (hD : D0 = .map es) (ha : xs.Pairwise fun x y => keyL' x ≠ keyL' y) (ho : ∀ x ∈ xs, Maps.has D0 (keyL' x) = true) : xs.length ≤ es.length := by
  subst hD
  have := len_le (xs.map keyL') (es.map (·.1)) (by rw [List.nodup_iff_pairwise_ne, List.pairwise_map]; exact ha) fun kl hk => by
    obtain ⟨x, hx, rfl⟩ := List.mem_map.1 hk
    have := ho x hx
    rw [has_eq] at this
    obtain ⟨y, hy, e⟩ := List.any_eq_true.1 this
    exact List.mem_map.2 ⟨y, hy, WideAt.sameKey_eq e⟩
  simpa using this
theorem kpC_keeps {b : Nat} {x : KeyT} {W W' : World} (h : KeepsOthers W W') : KpC b x W W' := fun r nn D left cnt hr _ => by
  obtain ⟨es, clock, since, seen, c0, hb, F, hs, hD, hr, rest⟩ := hr
  exact ⟨D, cnt, ⟨es, clock, since, seen, c0, h.same b _ hb rfl, F, hs, hD, h.same r _ hr rfl, rest⟩, Nat.le_refl _⟩

set_option maxRecDepth 100000 in
set_option maxHeartbeats 1000000 in
theorem keys2_in (F : Fence) (n : Nat) (h34 : F.fn 34) (hro : F.round = none) (hn : 1 ≤ n) (l Bm b nn : Nat) (D0 : DataW Nat) (J : List KeyT → World → Prop) (W : World) (hJ : AbidesFrom W.heap.size J)
    (hY : ∀ pre x W1, pre.length < nn → J pre W1 → YieldAt F (n - 1) Try.prog l #[keyV x] W1 fun e W' => e = .returned (.bool true) ∧ J (pre ++ [x]) W' ∧ KpC b x W1 W')
    (hm : W.cell? ⟨Bm, 0, none⟩ = some (.map (some b))) (hown : W.ownsMap Try.prog 67 pgR b nn D0) (h0 : J [] W) :
    CallsIn F n Try.prog 34 #[.func (.yield l) #[] #[], .pointer (some ⟨Bm, 0, none⟩)] W fun e W' => (∃ v, e = .returned v) ∧ ∃ ss : List KeyT, KeysOf D0 ss ∧ J ss W' := by
  obtain ⟨es, hes, _⟩ := hown.tidy keyed
  have hnn : es.length ≤ nn := by have := hown.size_le; rw [hes] at this; exact this
  refine callsIn_of_wp Try.func34 rfl h34 ?_ hro
  simp only [Try.ntmps34, List.size_toArray, List.length_cons, List.length_nil, Nat.reduceAdd, Nat.reduceSub, Array.replicate_succ, Array.replicate_zero, List.push_toArray, List.append_toArray, List.nil_append, List.cons_append]
  gi_wp2_with (first
    | (gi_at_range; refine wpListIn_range_own _ rfl _ 59 rfl 67 65 keyed mapU pgR b nn _ rfl hown ?_; intro w0 hrg0 hg0 hs0)
    | gi_in)
  go_frame
  gi_loopw [3] (fun _ wr => ∃ (left : Lit → Bool) (cnt : Nat) (ss : List KeyT) (D : DataW Nat), wr.ranges Try.prog 67 pgR b W.heap.size nn D left cnt ∧ (∀ kl, Maps.has D0 kl = true → left kl = true ∨ ∃ x ∈ ss, keyL' x = kl) ∧ (∀ kl, left kl = true → Maps.has D0 kl = true) ∧ (∀ x ∈ ss, left (keyL' x) = false ∧ Maps.has D0 (keyL' x) = true) ∧ (ss.Pairwise fun x y => keyL' x ≠ keyL' y) ∧ J ss wr)
    (fun _ wr => wr.rangeLeft b W.heap.size)
  case atStart =>
    exact ⟨_, _, [], _, hrg0, fun kl h => .inl h, fun kl h => h, fun x h => (by cases h), List.Pairwise.nil, hJ [] W w0 none h0 hg0 (fun r e => by cases e)⟩
  case round =>
    obtain ⟨left, cnt, ss, D, hrg, hC, hL, hS, hA, hJs⟩ := hrel
    gi_wp2_with (first
      | (gi_at_next; refine wpListIn_next_ranges _ rfl _ rfl 67 keyed pgR keyV id (fun key kl hk => by obtain ⟨x, hx, _⟩ := key_inv hk; exact ⟨x, hx⟩) (fun v _ _ => ⟨v, rfl⟩) b W.heap.size nn _ _ _ rfl hrg ?_ ?_)
      | gi_in)
    · intro hc0 hl0
      gi_wp2
      go_end0
      have hall : ∀ kl, Maps.has D0 kl = true → ∃ x ∈ ss, keyL' x = kl := fun kl h => by
        rcases hC kl h with h1 | h1
        · rw [hl0 kl] at h1; cases h1
        · exact h1
      exact ⟨⟨_, rfl⟩, ss, KeysOf.mk hall hA (fun x hx => (hS x hx).2), hJs⟩
    · intro x1 x2 hx v kl yd yp w2 cnt2 hkey hlk hv hat hrg2 hlt hg2 hs2 hen
      have hx' : kl = keyL' ⟨(x1, x2), hx⟩ := by have := key_mk ⟨(x1, x2), hx⟩; rw [hkey] at this; simpa using this
      subst hx'
      have hJ2 : J ss w2 := hJ ss wr w2 (some W.heap.size) hJs hg2 (fun r e => by cases e; exact ⟨by omega, hrg.iter_walk⟩)
      have hJ3 : J ss (w2.alloc (.cells #[.int .i64 x1, .int .i64 x2] 67)) := hJ ss w2 _ none hJ2 (World.grownBy_alloc _ _ none) (fun r e => by cases e)
      have hA2 : (ss ++ [(⟨(x1, x2), hx⟩ : KeyT)]).Pairwise fun x y => keyL' x ≠ keyL' y := by
        rw [List.pairwise_append]
        refine ⟨hA, List.pairwise_singleton _ _, fun y hy z hz e => ?_⟩
        rw [List.mem_singleton.1 hz] at e
        have := (hS y hy).1
        rw [e, hlk] at this; cases this
      have hlen : ss.length < nn := by
        have := KeysOf.len hes hA2 (fun y hy => by
          rcases List.mem_append.1 hy with h | h
          · exact (hS y h).2
          · rw [List.mem_singleton.1 h]; exact hL _ hlk)
        simp at this; omega
      obtain ⟨fn, tmps, assign, body, hy0, hR⟩ := hY ss ⟨(x1, x2), hx⟩ _ hlen hJ3
      have hy : (Instr.yield l #[.agg #[.int .i64 x1, .int .i64 x2]]).run Try.prog (w2.alloc (.cells #[.int .i64 x1, .int .i64 x2] 67)) = _ := hy0
      clear hy0
      clear hs2
      gi_wp2
      refine hR.mono ?_
      rintro e W3 ⟨rfl, hJ4, hk3⟩
      obtain ⟨D', cnt3, hrg3, hle⟩ := hk3 _ _ _ _ _ (hrg2.alloc _) (by rw [WideAt.sameKey_self (keyed.key hkey)]; simp)
      gi_wp2
      go_roundw
      case rel =>
        refine ⟨_, cnt3, ss ++ [⟨(x1, x2), hx⟩], D', hrg3, fun kl h => ?_, fun kl h => ?_, fun y hy => ?_, hA2, hJ4⟩
        · rcases hC kl h with h1 | ⟨z, hz, e⟩
          · cases hs : kl.sameKey (keyL' ⟨(x1, x2), hx⟩)
            · left; rw [h1]; rfl
            · right; exact ⟨_, List.mem_append_right _ (List.mem_singleton.2 rfl), (WideAt.sameKey_eq hs).symm⟩
          · right; exact ⟨z, List.mem_append_left _ hz, e⟩
        · simp only [Bool.and_eq_true] at h
          exact hL kl h.1
        · rcases List.mem_append.1 hy with h | h
          · exact ⟨by rw [(hS y h).1]; rfl, (hS y h).2⟩
          · rw [List.mem_singleton.1 h]
            exact ⟨by rw [WideAt.sameKey_self (keyed.key hkey)]; simp, hL _ hlk⟩
      case measure => rw [hrg3.left_eq, hrg.left_eq]; omega

def kCells (xs : List KeyT) : List Value := xs.flatMap fun x => encK x.1
theorem key_info : ∃ (i : TypeInfo) (z : Value), Hid (Try.prog.info? 67 = some i ∧ i.zero = some z ∧ i.size = 2 ∧ i.bytes = 16 ∧ z.cells.size = 2) := by
  have h : (Try.prog.info? 67).map (fun i => (i.zero.map (fun z => z.cells.size), i.size, i.bytes)) = some (some 2, 2, 16) := by kernel_rfl
  cases hi : Try.prog.info? 67 with
  | none => rw [hi] at h; cases h
  | some i =>
    rw [hi] at h
    simp only [Option.map_some, Option.some.injEq, Prod.mk.injEq] at h
    obtain ⟨h1, h2, h3⟩ := h
    cases hz : i.zero with
    | none => rw [hz] at h1; cases h1
    | some z =>
      rw [hz] at h1
      simp only [Option.map_some, Option.some.injEq] at h1
      exact ⟨i, z, Lib.hid ⟨rfl, hz, h2, h3, h1⟩⟩

set_option maxRecDepth 100000 in
set_option maxHeartbeats 2000000 in
/-- append(nil, maps.Keys(m)...). -/
theorem append_in (F : Fence) (n : Nat) (h39 : F.fn 39) (h34 : F.fn 34) (hro : F.round = none) (hn : 3 ≤ n)
    (w : World) (Bm b nn : Nat) (D0 : DataW Nat) (hnn : nn ≤ 2000) (hm : w.cell? ⟨Bm, 0, none⟩ = some (.map (some b))) (hown : w.ownsMap Try.prog 67 pgR b nn D0) :
    CallsIn F n Try.prog 39 #[.slice none 0 0, .func (.func 34) #[] #[.pointer (some ⟨Bm, 0, none⟩)]] w fun e w' =>
      ∃ v xs, e = .returned v ∧ KeysOf D0 xs ∧ w'.ownsRow w.heap.size 67 2 v xs.length (kCells xs) ∧ (xs = [] → v = .slice none 0 0) ∧ Below w.heap.size w w' := by
  have h1 : 1 ≤ n := by omega
  have oBm : Old Bm w := Old.of_cell hm
  obtain ⟨i0, z0, HI⟩ := key_info
  refine callsIn_of_wp_marks Try.func39 rfl h39 ?_ hro
  simp only [Try.ntmps39, List.size_toArray, List.length_cons, List.length_nil, Nat.reduceAdd, Nat.reduceSub, Array.replicate_succ, Array.replicate_zero, List.push_toArray, List.append_toArray, List.nil_append, List.cons_append]
  gi_wp2
  have b0 := Boxed.new w 74 (.slice none 0 0)
  have hb0 : Below w.heap.size w (w.alloc (.cells #[.slice none 0 0] 74)) := (Below.refl _ w).alloc (Nat.le_refl _) _
  have hown0 := hown.alloc (.cells #[.slice none 0 0] 74)
  have hr0 : (w.alloc (.cells #[.slice none 0 0] 74)).ownsRow w.heap.size 67 2 (.slice none 0 0) 0 [] := World.ownsRow_nil _ _ _ _
  have hsz : (w.alloc (.cells #[.slice none 0 0] 74)).heap.size = w.heap.size + 1 := by simp
  have hm0 : (w.alloc (.cells #[.slice none 0 0] 74)).cell? ⟨Bm, 0, none⟩ = some (.map (some b)) := (alloc_cell _ _ _ _ oBm).trans hm
  have hbw := hown.lt
  generalize w.alloc (.cells #[.slice none 0 0] 74) = w0 at *
  rename_i hK
  refine wpIn_rangeFunc_y (α := KeyT) (fun pre _ => pre.length < nn) hro h1 (gf := 34) (lb := #[.pointer (some ⟨Bm, 0, none⟩)]) rfl h34 (enters_of Try.func34 (by kernel_rfl) rfl)
    (encs := fun x : KeyT => #[keyV x]) (Kp := KpC b) (S := KeysOf D0) ?seq kpC_t (kpC_b (by omega)) (fun _ => rfl)
    (fun pre W => (∃ v, Boxed W w.heap.size 74 v ∧ W.ownsRow w.heap.size 67 2 v pre.length (kCells pre) ∧ (pre = [] → v = .slice none 0 0)) ∧ Below w.heap.size w W)
    (OwnFrom.and (Own.from (holdsRow_own w.heap.size w.heap.size 74 67 2 List.length kCells (fun pre v => pre = [] → v = .slice none 0 0)) _) (ownFrom_below (Nat.le_refl _) (by omega)))
    ⟨⟨_, b0, hr0, fun _ => rfl⟩, hb0⟩
    (fun x a' W => ∃ Bx, w0.heap.size ≤ Bx ∧ W.heap[Bx]? = some (.cells #[.int .i64 x.1.1, .int .i64 x.1.2] 67 (0, 0)) ∧ a' = { tmps := #[.slice none 0 0, .func (.func 34) #[] #[.pointer (some ⟨Bm, 0, none⟩)], .pointer (some ⟨w.heap.size, 0, none⟩), undef, .slice none 0 0, .pointer (some ⟨Bx, 0, none⟩), .func (.func 34) #[] #[.pointer (some ⟨Bm, 0, none⟩)], keyV x, undef, undef, undef, undef, undef], defers := [] }) ?ax ?assign ?body ?done
  case seq =>
    intro l J W hW hJ hY h0
    exact keys2_in F (n - 1) h34 hro (by omega) l Bm b nn D0 J W hJ hY ((hW.cell (p := ⟨Bm, 0, none⟩) (by have := oBm.lt; simp; omega)).trans hm0) (hown0.kept (row := none) ⟨hW.os, hW.tape, hW.output, hW.size, fun k hk _ => hW.block k hk⟩ (by simp)) h0
  case ax =>
    rintro x a' _ A B' row ⟨Bx, hBx, hc, rfl⟩ hg hr
    refine ⟨Bx, hBx, (hg.block Bx (Array.getElem?_eq_some_iff.1 hc).1 (fun e => ?_)).trans hc, rfl⟩
    obtain ⟨_, o, ho, hcl⟩ := hr Bx e.symm
    rw [hc] at ho; cases ho; cases hcl
  case assign =>
    rintro l pre x W K _ ⟨⟨v, hv, hr, hn0⟩, hB⟩ hK
    have hs := hB.size
    gi_wp2
    exact hK _ _ ((KeepsOthers.alloc _ _).from _) (kpC_g (World.grownBy_alloc _ _ none)) ⟨⟨v, hv.alloc _, hr.alloc _, hn0⟩, hB.alloc hs _⟩ ⟨W.heap.size, by have := hv.lt; omega, heap_alloc_new _ _, rfl⟩
  case body =>
    rintro l pre x a' W hl ⟨r, hr⟩ hok ⟨⟨v, hv, hrow, hn0⟩, hB⟩ ⟨Bx, hBx, hBc, rfl⟩
    have f0 := row_cells hBc 0
    have f1 := row_cells hBc 1
    simp at f0 f1
    have hvc := hv.cell
    have hvf := hv.frozen
    have hs := hB.size
    gi_wp2_with (gi_at_builtin; refine wpListIn_append_own _ rfl _ _ 74 rfl w.heap.size 67 i0 z0 2 16 rfl HI.out.1 HI.out.2.1 HI.out.2.2.1 HI.out.2.2.2.1 HI.out.2.2.2.2 (by omega) v pre.length (kCells pre) rfl (hrow.alloc _) ⟨W.heap.size, 0, none⟩ 1 1 (encK x.1) rfl rfl (news_row _ (encK x.1) _) (by simp [encK, Value.oneCell']) (by simp only [maxLen]; omega) (by omega) (by simp; omega) ?_; intro v' w1 hown' hgrow hnil; obtain ⟨g', cap', rfl⟩ := ownsRow_succ hown'; obtain ⟨hv1, hv2, hr2, hk2, hb2⟩ := hv.appended (by decide) hrow hs (Nat.le_refl _) hown' hgrow; have hc1 := hv1.cell; have hf1 := hv1.frozen)
    exact ⟨hk2.from _, kpC_keeps hk2, ⟨_, hv2, by rw [List.length_append, show kCells (pre ++ [x]) = kCells pre ++ encK x.1 by simp [kCells]]; exact hr2, fun h => absurd h (by simp)⟩, hB.trans hb2⟩
  case done =>
    rintro D ys W hD hS ⟨⟨v, hv, hrow, hn0⟩, hB⟩ hKD
    have hvc := hv.cell
    gi_wp2
    refine ⟨by simp, .inl ⟨_, _, rfl, run_takeDeferred hKD, ?_⟩⟩
    exact ⟨_, results_tmp rfl _ _ _, v, ys, rfl, hS, ownsRow_putObj hrow _ hKD rfl, hn0, hB.trans (belowK_b (w := w) (Nat.le_refl _) W D _ _ (by omega) hKD rfl rfl)⟩

theorem collect_in (F : Fence) (n : Nat) (h35 : F.fn 35) (h39 : F.fn 39) (h34 : F.fn 34) (hro : F.round = none) (hn : 4 ≤ n)
    (w : World) (Bm b nn : Nat) (D0 : DataW Nat) (hnn : nn ≤ 2000) (hm : w.cell? ⟨Bm, 0, none⟩ = some (.map (some b))) (hown : w.ownsMap Try.prog 67 pgR b nn D0) :
    CallsIn F n Try.prog 35 #[.func (.func 34) #[] #[.pointer (some ⟨Bm, 0, none⟩)]] w fun e w' =>
      ∃ v xs, e = .returned v ∧ KeysOf D0 xs ∧ w'.ownsRow w.heap.size 67 2 v xs.length (kCells xs) ∧ (xs = [] → v = .slice none 0 0) ∧ Below w.heap.size w w' := by
  have h1 : 1 ≤ n := by omega
  refine callsIn_of_wp Try.func35 rfl h35 ?_ hro
  simp only [Try.ntmps35, List.size_toArray, List.length_cons, List.length_nil, Nat.reduceAdd, Nat.reduceSub, Array.replicate_succ, Array.replicate_zero, List.push_toArray, List.append_toArray, List.nil_append, List.cons_append]
  gi_wp2_with (gi_at_call 39; refine (append_in F (n - 1) h39 h34 hro (by omega) w Bm b nn D0 hnn hm hown).mono ?_; rintro e w' ⟨v, xs, rfl, hk, ho, hz, hb⟩)
  go_ret
  exact ⟨v, xs, rfl, hk, ho, hz, hb⟩

end Go.Proofs.Ytioajmhfofmdoaa
