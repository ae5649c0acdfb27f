/- maps.Keys over the map of pages, for rounds that may delete the key that has come. -/
import Derived.Test.YtioajmhfofmdoaaRx
import Derived.Test.YtioajmhfofmdoaaVw
namespace Go.Proofs.Ytioajmhfofmdoaa
open Go.RowKit Go.Sort Go.Maps Go.Shelf

attribute [local go_sem] Oper.semAt_some

abbrev KeyT := { x : Int × Int // (Lit.int .i64 x.1).wf = true ∧ (Lit.int .i64 x.2).wf = true }
abbrev keyV (x : KeyT) : Value := .agg #[.int .i64 x.1.1, .int .i64 x.1.2]
def keyL' (x : KeyT) : Lit := kyl x.1.1 x.1.2
theorem key_mk (x : KeyT) : keyOf Try.prog 67 (keyV x) = some (keyL' x) := key_of _ _ x.2.1 x.2.2
theorem two_of {α : Type} : ∀ l : List α, l.length = 2 → ∃ a b, l = [a, b]
  | [a, b], _ => ⟨a, b, rfl⟩
theorem key_inv {v : Value} {kl : Lit} (h : keyOf Try.prog 67 v = some kl) : ∃ x : KeyT, v = keyV x ∧ kl = keyL' x := by
  suffices hs : ∃ x : KeyT, v = keyV x by
    obtain ⟨x, rfl⟩ := hs
    rw [key_mk] at h
    exact ⟨x, rfl, by simpa using h.symm⟩
  have hk : Try.prog.keyType 67 = true := by kernel_rfl
  have hc : Try.prog.cellsOf 67 = 2 := by kernel_rfl
  unfold keyOf at h
  rw [keyS] at h
  simp only [hk, Bool.true_and] at h
  split at h
  · rename_i hf
    rw [Option.map_eq_some_iff] at h
    obtain ⟨ls, hls, _⟩ := h
    unfold Value.formed at hf
    rw [keyS] at hf
    have hu : Try.prog.underlying 3 = some (.int .i64) := by kernel_rfl
    have hci : Try.prog.cellsOf 3 = 1 := by kernel_rfl
    obtain ⟨m, hm⟩ : ∃ m, Try.prog.types.size = m + 1 := ⟨Try.prog.types.size - 1, by have : 0 < Try.prog.types.size := of_decide_eq_true (by kernel_rfl); omega⟩
    have hi : ∀ (u : Value) (ls : List Lit), Try.prog.keyLits (m + 1) 3 [u] = some ls → ∃ x, u = .int .i64 x ∧ (Lit.int .i64 x).wf = true := fun u ls hx => by
      unfold Program.keyLits at hx
      rw [hu] at hx
      cases u <;> simp at hx
      obtain ⟨⟨rfl, hw⟩, _⟩ := hx
      exact ⟨_, rfl, hw⟩
    cases v <;> simp at hf
    rename_i cs
    have hsz : cs.size = 2 := by simpa [hc] using hf
    obtain ⟨a, b, rfl⟩ : ∃ a b, cs = #[a, b] := by
      obtain ⟨l⟩ := cs
      obtain ⟨a, b, e⟩ := two_of l hsz
      exact ⟨a, b, by rw [e]⟩
    rw [hm, show m + 1 + 1 = (m + 1) + 1 from rfl] at hls
    unfold Program.keyLits at hls
    rw [keyS] at hls
    have hl := keyL
    simp only [Value.cells, keyN, hc, List.length_cons, List.length_nil, and_self, if_true] at hls
    generalize keyF.toList = L at hl hls
    have hlen : L.length = 2 := by have := congrArg List.length hl; simpa using this
    obtain ⟨f, g, rfl⟩ := two_of L hlen
    simp at hl
    obtain ⟨⟨h1, h2⟩, h3, h4⟩ := hl
    simp [h1, h2, h3, h4, hci] at hls
    cases ha : Try.prog.keyLits (m + 1) 3 [a] with
    | none => rw [ha] at hls; cases hls
    | some la =>
      cases hb : Try.prog.keyLits (m + 1) 3 [b] with
      | none => rw [ha, hb] at hls; cases hls
      | some lb =>
        obtain ⟨x, rfl, hx⟩ := hi a la ha
        obtain ⟨y, rfl, hy⟩ := hi b lb hb
        exact ⟨⟨(x, y), hx, hy⟩, rfl⟩
  · cases h

def KpC (b : Nat) (x : KeyT) (W W' : World) : Prop := ∀ r nn D left cnt, W.ranges Try.prog 67 pgR b r nn D left cnt → left (keyL' x) = false → ∃ D' cnt', W'.ranges Try.prog 67 pgR b r nn D' left cnt' ∧ cnt' ≤ cnt
def AllCame (D0 : DataW Nat) (xs : List KeyT) : Prop := ∀ kl, Maps.has D0 kl = true → ∃ x ∈ xs, keyL' x = kl

set_option maxRecDepth 100000 in
set_option maxHeartbeats 1000000 in
theorem keys1_in (F : Fence) (n : Nat) (h34 : F.fn 34) (hro : F.round = none) (hn : 1 ≤ n) (l Bm b nn : Nat) (D0 : DataW Nat) (J : List KeyT → World → Prop) (W : World) (hJ : AbidesFrom W.heap.size J)
    (hY : ∀ pre x W1, J pre W1 → YieldAt F (n - 1) Try.prog l #[keyV x] W1 fun e W' => e = .returned (.bool true) ∧ J (pre ++ [x]) W' ∧ KpC b x W1 W')
    (hm : W.cell? ⟨Bm, 0, none⟩ = some (.map (some b))) (hown : W.ownsMap Try.prog 67 pgR b nn D0) (h0 : J [] W) :
    CallsIn F n Try.prog 34 #[.func (.yield l) #[] #[], .pointer (some ⟨Bm, 0, none⟩)] W fun e W' => (∃ v, e = .returned v) ∧ ∃ ss : List KeyT, AllCame D0 ss ∧ J ss W' := by
  refine callsIn_of_wp Try.func34 rfl h34 ?_ hro
  simp only [Try.ntmps34, List.size_toArray, List.length_cons, List.length_nil, Nat.reduceAdd, Nat.reduceSub, Array.replicate_succ, Array.replicate_zero, List.push_toArray, List.append_toArray, List.nil_append, List.cons_append]
  gi_wp2_with (first
    | (gi_at_range; refine wpListIn_range_own _ rfl _ 59 rfl 67 65 keyed mapU pgR b nn _ rfl hown ?_; intro w0 hrg0 hg0 hs0)
    | gi_in)
  go_frame
  gi_loopw [3] (fun _ wr => ∃ (left : Lit → Bool) (cnt : Nat) (ss : List KeyT) (D : DataW Nat), wr.ranges Try.prog 67 pgR b W.heap.size nn D left cnt ∧ (∀ kl, Maps.has D0 kl = true → left kl = true ∨ ∃ x ∈ ss, keyL' x = kl) ∧ J ss wr)
    (fun _ wr => wr.rangeLeft b W.heap.size)
  case atStart =>
    exact ⟨_, _, [], _, hrg0, fun kl h => .inl h, hJ [] W w0 none h0 hg0 (fun r e => by cases e)⟩
  case round =>
    obtain ⟨left, cnt, ss, D, hrg, hC, hJs⟩ := hrel
    gi_wp2_with (first
      | (gi_at_next; refine wpListIn_next_ranges _ rfl _ rfl 67 keyed pgR keyV id (fun key kl hk => by obtain ⟨x, hx, _⟩ := key_inv hk; exact ⟨x, hx⟩) (fun v _ _ => ⟨v, rfl⟩) b W.heap.size nn _ _ _ rfl hrg ?_ ?_)
      | gi_in)
    · intro hc0 hl0
      gi_wp2
      go_end0
      exact ⟨⟨_, rfl⟩, ss, fun kl h => by rcases hC kl h with h1 | h1; · rw [hl0 kl] at h1; cases h1
                                          · exact h1, hJs⟩
    · intro x1 x2 hx v kl yd yp w2 cnt2 hkey hlk hv hat hrg2 hlt hg2 hs2 hen
      have hx' : kl = keyL' ⟨(x1, x2), hx⟩ := by have := key_mk ⟨(x1, x2), hx⟩; rw [hkey] at this; simpa using this
      subst hx'
      have hJ2 : J ss w2 := hJ ss wr w2 (some W.heap.size) hJs hg2 (fun r e => by cases e; exact ⟨by omega, hrg.iter_walk⟩)
      have hJ3 : J ss (w2.alloc (.cells #[.int .i64 x1, .int .i64 x2] 67)) := hJ ss w2 _ none hJ2 (World.grownBy_alloc _ _ none) (fun r e => by cases e)
      obtain ⟨fn, tmps, assign, body, hy0, hR⟩ := hY ss ⟨(x1, x2), hx⟩ _ hJ3
      have hy : (Instr.yield l #[.agg #[.int .i64 x1, .int .i64 x2]]).run Try.prog (w2.alloc (.cells #[.int .i64 x1, .int .i64 x2] 67)) = _ := hy0
      clear hy0
      clear hs2
      gi_wp2
      refine hR.mono ?_
      rintro e W3 ⟨rfl, hJ4, hk3⟩
      obtain ⟨D', cnt3, hrg3, hle⟩ := hk3 _ _ _ _ _ (hrg2.alloc _) (by rw [WideAt.sameKey_self (keyed.key hkey)]; simp)
      gi_wp2
      go_roundw
      case rel =>
        refine ⟨_, cnt3, ss ++ [⟨(x1, x2), hx⟩], D', hrg3, fun kl h => ?_, hJ4⟩
        rcases hC kl h with h1 | ⟨z, hz, e⟩
        · cases hs : kl.sameKey (keyL' ⟨(x1, x2), hx⟩)
          · left; rw [h1]; rfl
          · right; exact ⟨_, List.mem_append_right _ (List.mem_singleton.2 rfl), (WideAt.sameKey_eq hs).symm⟩
        · right; exact ⟨z, List.mem_append_left _ hz, e⟩
      case measure => rw [hrg3.left_eq, hrg.left_eq]; omega

theorem keys_in (F : Fence) (n : Nat) (h26 : F.fn 26) (hro : F.round = none) (mb : Option Nat) (w : World) :
    CallsIn F n Try.prog 26 #[.map mb] w fun e w' => e = .returned (.func (.func 34) #[] #[.pointer (some ⟨w.heap.size, 0, none⟩)]) ∧ w' = w.alloc (.cells #[.map mb] 59) := by
  refine callsIn_of_wp Try.func26 rfl h26 ?_ hro
  simp only [Try.ntmps26, List.size_toArray, List.length_cons, List.length_nil, Nat.reduceAdd, Nat.reduceSub, Array.replicate_succ, Array.replicate_zero, List.push_toArray, List.append_toArray, List.nil_append, List.cons_append]
  gi_wp2
  go_ret
  exact ⟨rfl, rfl⟩

end Go.Proofs.Ytioajmhfofmdoaa
