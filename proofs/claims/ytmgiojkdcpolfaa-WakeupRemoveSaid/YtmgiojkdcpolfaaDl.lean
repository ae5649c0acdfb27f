/- slices.Delete of one tree. -/
import Derived.Test.YtmgiojkdcpolfaaPi
import Derived.Laws.IdiomCopy
import Derived.Test.YtmgiojkdcpolfaaRp
import Derived.BigQuiet
namespace Go.Proofs.Ytmgiojkdcpolfaa
open Go.RowKit Go.Sort PT

/-- Cells behind a row's own elements are set. -/
theorem own_setCell {w : World} {B o : Nat} {e : TypeId} {size n cap g : Nat} {xs : List Value} (h : w.ownsRow B e size (.slice (some ⟨g, 0, none⟩) n cap) n xs) (ho : n * size ≤ o) (u : Value) : (w.setCell ⟨g, o, none⟩ u).ownsRow B e size (.slice (some ⟨g, 0, none⟩) n cap) n xs := by
  refine ⟨h.1, ?_⟩
  rcases h.2 with ⟨he, _⟩ | ⟨g', c', cur, he, h1, h2, h3, h4, h5, h6⟩
  · cases he
  · cases he
    refine .inr ⟨g, cap, _, rfl, h1, heap_setCell_same _ _ _ _ _ _ h2, h3, h4, by simpa using h5, ?_⟩
    rw [← h6, Array.toList_setIfInBounds, List.take_set_of_le ho]
theorem own_setCells {B : Nat} {e : TypeId} {size n cap g : Nat} {xs : List Value} : ∀ (vs : List Value) (o : Nat) (w : World), w.ownsRow B e size (.slice (some ⟨g, 0, none⟩) n cap) n xs → n * size ≤ o → (w.setCells g o vs).ownsRow B e size (.slice (some ⟨g, 0, none⟩) n cap) n xs
  | [], _, _, h, _ => h
  | v :: r, o, w, h, ho => by
    rw [World.setCells]
    exact own_setCells r (o + 1) _ (own_setCell h ho v) (by omega)
theorem grown_setCells (g : Nat) : ∀ (vs : List Value) (o : Nat) (w : World), w.grownBy (w.setCells g o vs) (some g)
  | [], _, _ => ⟨rfl, rfl, rfl, Nat.le_refl _, fun _ _ _ => rfl⟩
  | v :: r, o, w => by
    rw [World.setCells]
    exact World.grownBy.trans (grown_set w ⟨g, o, none⟩ v) (grown_setCells g r (o + 1) _)
abbrev zTr : List Value := [.int .i64 0, .int .i64 0, .slice none 0 0, .slice none 0 0, .slice none 0 0]
theorem tree_zero : ∃ (i : TypeInfo) (z : Value), Hid (Try.prog.info? 33 = some i ∧ i.zero = some z ∧ z.cells.toList = zTr) := by
  have h : (Try.prog.info? 33).map (fun i => i.zero.map (fun z => z.cells.toList)) = some (some zTr) := by kernel_rfl
  cases hi : Try.prog.info? 33 with
  | none => rw [hi] at h; cases h
  | some i =>
    rw [hi] at h
    simp only [Option.map_some, Option.some.injEq] at h
    cases hz : i.zero with
    | none => rw [hz] at h; cases h
    | some z =>
      rw [hz] at h
      simp only [Option.map_some, Option.some.injEq] at h
      exact ⟨i, z, Lib.hid ⟨rfl, hz, h⟩⟩
theorem zero5 : (Builtin.zeroCells #[.int .i64 0, .int .i64 0, .slice none 0 0, .slice none 0 0, .slice none 0 0] 1).toList = [.int .i64 0, .int .i64 0, .slice none 0 0, .slice none 0 0, .slice none 0 0] := by
  simp [Builtin.zeroCells, Array.range]
theorem run_clear_tree (w : World) (ty : TypeId) (g o c : Nat) (cur : Array Value) (hg : w.heap[g]? = some (.cells cur 33 (0, 0))) (ho : o + 5 ≤ cur.size) :
    (Builtin.clear_ #[31] ty #[.slice (some ⟨g, o, none⟩) 1 c]).run Try.prog w = .ok (.tuple #[]) (w.setCells g o zTr) := by
  obtain ⟨i, z, hi, hz, hc⟩ := tree_zero
  have hv : (zeroValue 33).run Try.prog w = .ok z w := by simp [zeroValue, typeInfo, hi, hz]
  have hzc : (Builtin.zeroCells z.cells 1).toList = zTr := by
    have : z.cells = zTr.toArray := by rw [← hc]
    rw [this]; exact zero5
  have hst := run_storeCells_cells (P := Try.prog) g o zTr 0 w (fun j hj => by
    have hj5 : j < 5 := hj
    rw [Nat.add_zero, row_cells hg, Array.getElem?_eq_getElem (by omega)]; rfl) (fun j _ => by simp [World.frozen?, hg]) (fun v hv => by
    simp at hv
    rcases hv with rfl | rfl <;> rfl)
  simp only [Nat.add_zero] at hst
  have hu : Try.prog.underlying 31 = some (.slice 33) := by kernel_rfl
  simp [Builtin.clear_, run_underlying hu, hv, hzc, hst]

theorem wpList_clear_tree {w : World} {ops : Array Oper} {rest : List Oper} {o : Oper} {a : Act} {Q : Exit → Act → World → Prop} (hgd : o.guard = none) (x : Operand)
    (ho : o.op = .call { callee := .builtin .clear, args := #[x], argTypes := #[31] }) (g of c : Nat) (hx : a.eval x = .slice (some ⟨g, of, none⟩) 1 c) (cur : Array Value) (hg : w.heap[g]? = some (.cells cur 33 (0, 0))) (hof : of + 5 ≤ cur.size)
    (h : wpList Try.prog ops Q rest (a.put o.dst (.tuple #[])) (w.setCells g of zTr)) : wpList Try.prog ops Q (o :: rest) a w := by
  refine wpList_plain hgd fun K hK => ?_
  have hrun := run_clear_tree w o.type g of c cur hg hof
  unfold Oper.wp execOp
  simp only [ho, resolve, invoke, builtin, Sem.run_bind, Sem.run_pure, Result.andThen_ok, List.map_toArray, List.map_cons, List.map_nil, hx, hrun]
  exact hK _ _ h

theorem wpList_append_in {w : World} {ops : Array Oper} {rest : List Oper} {o : Oper} {a : Act} {Q : Exit → Act → World → Prop} (hgd : o.guard = none) (s x : Operand) (t : TypeId)
    (ho : o.op = .call { callee := .builtin .append, args := #[s, x], argTypes := #[t, t] }) (e : TypeId) (i : TypeInfo) (n : Nat) (ht : Try.prog.underlying t = some (.slice e)) (hi : Try.prog.info? e = some i) (hn : i.size = n)
    (g sLen sCap : Nat) (cur : Array Value) (hs : a.eval s = .slice (some ⟨g, 0, none⟩) sLen sCap) (hg : w.heap[g]? = some (.cells cur e (0, 0)))
    (ad : Addr) (m c : Nat) (hx : a.eval x = .slice (some ad) m c) (news : List Value) (hl : news.length = m * n) (hnews : ∀ j u, news[j]? = some u → w.cell? (ad.add j) = some u) (h1 : ∀ u ∈ news, u.oneCell' = true)
    (hroom : sLen + m ≤ sCap) (hfit : sLen * n + news.length ≤ cur.size)
    (h : wpList Try.prog ops Q rest (a.put o.dst (.slice (some ⟨g, 0, none⟩) (sLen + m) sCap)) (w.setRow g (cur.toList.take (sLen * n) ++ news ++ cur.toList.drop (sLen * n + news.length)).toArray)) : wpList Try.prog ops Q (o :: rest) a w := by
  subst hn
  refine wpList_plain hgd fun K hK => ?_
  have hrun := run_append_room (P := Try.prog) w t o.type e i ht hi g sLen sCap cur hg ad m c news hl hnews h1 hroom hfit
  unfold Oper.wp execOp
  simp only [ho, resolve, invoke, builtin, Sem.run_bind, Sem.run_pure, Result.andThen_ok, List.map_toArray, List.map_cons, List.map_nil, hs, hx, hrun]
  exact hK _ _ h
theorem flat_erase {α : Type} {f : α → List Value} (l : List α) (i : Nat) : (l.take i).flatMap f ++ (l.drop (i + 1)).flatMap f = (l.eraseIdx i).flatMap f := by
  rw [List.eraseIdx_eq_take_drop_succ, List.flatMap_append]

set_option maxRecDepth 100000 in
set_option maxHeartbeats 2000000 in
theorem delete_any (w : World) (B : Nat) (ad : Option Addr) (ks : List PT) (cap i : Nat) (hown : w.ownsRow B 33 5 (.slice ad ks.length cap) ks.length (ks.flatMap trC)) (hi : i < ks.length) (hl : ks.length ≤ 900) :
    Calls Try.prog 50 #[.slice ad ks.length cap, .int .i64 i, .int .i64 ((i : Int) + 1)] w fun e w' => e = .returned (.slice ad (ks.length - 1) cap) ∧ w.grownBy w' (Value.slice ad ks.length cap).ownBlock ∧ w'.ownsRow B 33 5 (.slice ad (ks.length - 1) cap) (ks.length - 1) ((ks.eraseIdx i).flatMap trC) := by
  obtain ⟨j0, z0, HI⟩ := tree_info
  have ho := hown
  rcases ho.2 with ⟨_, h0⟩ | ⟨g, cap', cur, he, h1, h2, h3, h4, h5, h6⟩
  · omega
  cases he
  have HO := Lib.hid hown
  have HG := Lib.hid h2
  have H5 := Lib.hid h5
  have H6 := Lib.hid h6
  have H1 := Lib.hid h1
  have H4 := Lib.hid h4
  clear ho hown h1 h2 h4 h5 h6
  have i0 : (0 : Int) ≤ (i : Int) := by omega
  have i1 : (i : Int) ≤ (i : Int) + 1 := by omega
  have i2 : (i : Int) + 1 ≤ ks.length := by omega
  have i3 : (ks.length : Int) ≤ cap := by omega
  have i4 : ((i : Int) == (i : Int) + 1) = false := by simp; omega
  have i5 : (0 : Int) ≤ (i : Int) + 1 := by omega
  have i6 : ((i : Int) + 1).toNat = i + 1 := by omega
  have i7 : (i : Int) ≤ cap := by omega
  go_enter Try.func50, Try.ntmps50
  go_wp2
  refine wp_region_relP 6 [20, 21, 22, 23, 24, 25] [fun _ v => v = .slice (some ⟨g, 0, none⟩) ks.length cap, fun _ v => v = .int .i64 i, fun _ v => v = .slice (some ⟨g, 0, none⟩) i cap, fun _ v => v = .slice (some ⟨g, 0, none⟩) ks.length cap, fun _ v => v = .int .i64 ((i : Int) + 1), fun _ v => v = .slice (if cap = i + 1 then some ⟨g, 0, none⟩ else (some ⟨g, 0, none⟩ : Option Addr).map (·.add ((i + 1) * 5))) (ks.length - (i + 1)) (cap - (i + 1))]
    (by kernel_rfl) (by kernel_rfl) rfl rfl (by simp only [List.drop_succ_cons, List.drop_zero]; rfl) (by decide) rfl (by kernel_rfl) ?_ ?_ ?_
  · exact ⟨fun _ _ _ h => h, fun _ _ _ h => h, fun _ _ _ h => h, fun _ _ _ h => h, fun _ _ _ h => h, fun _ _ _ h => h, trivial⟩
  · refine ⟨?_, ?_, ?_, ?_, ?_, ?_, trivial⟩
    · refine relAt_seen [0] rfl rfl rfl fun a r hs => ?_
      simp [allSeen, FofL, slot] at hs
      simp [execOp, relUpon, FofL, go_sem, gw_ex_self, hs]
    · refine relAt_seen [1] rfl rfl rfl fun a r hs => ?_
      simp [allSeen, FofL, slot] at hs
      simp [execOp, relUpon, FofL, go_sem, gw_ex_self, hs]
    · refine relAt_seen [20, 21] rfl rfl rfl fun a r hs => ?_
      simp [allSeen, FofL, slot] at hs
      simp [execOp, relUpon, FofL, go_sem, gw_ex_self, hs, i7]
    · refine relAt_seen [0] rfl rfl rfl fun a r hs => ?_
      simp [allSeen, FofL, slot] at hs
      simp [execOp, relUpon, FofL, go_sem, gw_ex_self, hs]
    · refine relAt_seen [2] rfl rfl rfl fun a r hs => ?_
      simp [allSeen, FofL, slot] at hs
      simp [execOp, relUpon, FofL, go_sem, gw_ex_self, hs]
    · refine relAt_seen [23, 24] rfl rfl rfl fun a r hs => ?_
      simp [allSeen, FofL, slot] at hs
      simp [execOp, relUpon, FofL, go_sem, gw_ex_self, hs, i5, i2, i6]
  · intro vs' r hlen hv
    match vs', hlen with
    | [v20, v21, v22, v23, v24, v25], hl0 =>
      clear hl0 hlen
      obtain ⟨h20, h21, h22, h23, h24, h25, _⟩ := hv
      subst h20 h21 h22 h23 h24 h25
      simp only [putL, Act.put, List.setIfInBounds_toArray, List.set_cons_zero, List.set_cons_succ]
      have hqb : Below w.heap.size w (gw w.drew r) := ((Below.refl _ w).drew).trans (gw_below w.drew r)
      have hgz := (hqb.block g (Array.getElem?_eq_some_iff.1 HG.out).1).trans HG.out
      have hoz : (gw w.drew r).ownsRow B 33 5 (.slice (some ⟨g, 0, none⟩) ks.length cap) ks.length (ks.flatMap trC) := own_of_block HO.out fun k hk => hqb.block k (HO.out.lt k hk).2
      generalize gw w.drew r = Z at *
      have hdrop := (row_own trC_len hoz rfl).drop (i + 1) (cap := cap) h3
      obtain ⟨a, ha⟩ : ∃ a, (if cap = i + 1 then some ⟨g, 0, none⟩ else (some ⟨g, 0, none⟩ : Option Addr).map (·.add ((i + 1) * 5))) = some a := by
        split
        · exact ⟨_, rfl⟩
        · exact ⟨_, rfl⟩
      rw [ha] at hdrop ⊢
      have hlen5 : ((ks.drop (i + 1)).flatMap trC).length = (ks.length - (i + 1)) * 5 := by rw [flat_len trC_len, List.length_drop]
      have hcs := H5.out
      refine wpList_append_in rfl _ _ 31 rfl 33 j0 5 rfl HI.out.1 HI.out.2.2.1 g i cap cur rfl hgz a (ks.length - (i + 1)) (cap - (i + 1)) rfl ((ks.drop (i + 1)).flatMap trC) hlen5 (hdrop.cells trC_len a rfl) (fun u hu => by
        obtain ⟨x, _, hx⟩ := List.mem_flatMap.1 hu
        exact trC_one x u hx) (by omega) (by rw [hlen5, hcs]; omega) ?_
      have htk : cur.toList.take (i * 5) = (ks.take i).flatMap trC := by
        rw [← (flat_take trC_len ks i (by omega)).1, ← H6.out, List.take_take, Nat.min_eq_left (by omega)]
      obtain ⟨cur2, hcur2⟩ : ∃ cur2, cur2 = (cur.toList.take (i * 5) ++ (ks.drop (i + 1)).flatMap trC ++ cur.toList.drop (i * 5 + ((ks.drop (i + 1)).flatMap trC).length)).toArray := ⟨_, rfl⟩
      rw [← hcur2]
      have hc2 : cur2.size = cap * 5 := by
        rw [hcur2]
        simp only [List.size_toArray, List.length_append, List.length_take, List.length_drop, Array.length_toList, hlen5, hcs]
        omega
      have hg2 := setRow_heap Z g cur cur2 33 (0, 0) hgz
      have hmo : i + (ks.length - (i + 1)) = ks.length - 1 := by omega
      have hown2 : (Z.setRow g cur2).ownsRow B 33 5 (.slice (some ⟨g, 0, none⟩) (ks.length - 1) cap) (ks.length - 1) ((ks.eraseIdx i).flatMap trC) := by
        refine ⟨by rw [flat_len trC_len, List.length_eraseIdx_of_lt hi], .inr ⟨g, cap, cur2, rfl, H1.out, hg2, by omega, H4.out, hc2, ?_⟩⟩
        rw [hcur2, ← flat_erase, htk]
        have e1 : ((ks.take i).flatMap trC ++ (ks.drop (i + 1)).flatMap trC).length = (ks.length - 1) * 5 := by
          rw [List.length_append, hlen5, flat_len trC_len, List.length_take, Nat.min_eq_left (by omega)]
          omega
        rw [← e1]
        exact List.take_left
      have hgr : w.grownBy (Z.setRow g cur2) (some g) := ⟨hqb.os, hqb.tape, hqb.output, by have := hqb.size; simpa using this, fun k hk hne => by
        rw [setRow_other _ _ _ _ (fun e => hne (by rw [e]))]
        exact hqb.block k hk⟩
      rw [hmo]
      have HG2 := Lib.hid hg2
      have HC2 := Lib.hid hc2
      have HOW := Lib.hid hown2
      have HGR := Lib.hid hgr
      clear hqb hgz hoz hdrop ha hlen5 hcs htk hcur2 hc2 hg2 hmo hown2 hgr
      generalize Z.setRow g cur2 = V at *
      have j1 : ((ks.length - 1 : Nat) : Int) ≤ ks.length := by omega
      have j2 : ks.length - (ks.length - 1) = 1 := by omega
      have j3 : ((ks.length - 1 : Nat) : Int) ≤ cap := by omega
      have hz5 : (ks.length - 1) * 5 + 5 ≤ cur2.size := by rw [HC2.out]; omega
      have HZ5 := Lib.hid hz5
      clear hz5
      go_wp2_with (refine wpList_clear_tree rfl _ rfl g ((ks.length - 1) * 5) (cap - (ks.length - 1)) rfl cur2 HG2.out HZ5.out ?_; refine Stop.here ?_)
      refine Stop.on ?_
      have HF := Lib.hid (show w.grownBy (V.setCells g ((ks.length - 1) * 5) zTr) (some g) ∧ (V.setCells g ((ks.length - 1) * 5) zTr).ownsRow B 33 5 (.slice (some ⟨g, 0, none⟩) (ks.length - 1) cap) (ks.length - 1) ((ks.eraseIdx i).flatMap trC) from
        ⟨HGR.out.trans (grown_setCells g zTr _ V), own_setCells zTr _ V HOW.out (Nat.le_refl _)⟩)
      clear HG2 HC2 HOW HGR HZ5
      generalize V.setCells g ((ks.length - 1) * 5) zTr = U at *
      go_wp2
      go_ret
      exact ⟨rfl, HF.out.1, HF.out.2⟩
end Go.Proofs.Ytmgiojkdcpolfaa
