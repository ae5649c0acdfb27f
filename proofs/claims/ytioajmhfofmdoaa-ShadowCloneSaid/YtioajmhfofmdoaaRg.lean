/- The document's memory: Clear. -/
import Derived.Test.YtioajmhfofmdoaaRf
namespace Go.Proofs.Ytioajmhfofmdoaa
open Go.RowKit Go.Sort

theorem news_row (W : World) (xs : List Value) (t : TypeId) : ∀ j u, xs[j]? = some u → (W.alloc (.cells xs.toArray t)).cell? ((⟨W.heap.size, 0, none⟩ : Addr).add j) = some u := by
  intro j u hu
  have := row_cells (heap_alloc_at' W (.cells xs.toArray t) _ rfl) j
  rw [List.getElem?_toArray, hu] at this
  rw [← this]
  unfold Addr.add
  split
  · rename_i h; subst h; rfl
  · simp
theorem ent_len (l : List Ent) : (l.flatMap entC).length = l.length * 15 := by
  induction l with
  | nil => rfl
  | cons e r ih => simp [List.flatMap_cons, ih]; omega
theorem ent_get : ∀ (l : List Ent) (k : Nat) (hk : k < l.length) (i : Nat), i < 15 → (l.flatMap entC)[k * 15 + i]? = (entC l[k])[i]?
  | e :: r, 0, _, i, hi => by
    simp only [List.flatMap_cons, Nat.zero_mul, Nat.zero_add, List.getElem_cons_zero]
    rw [List.getElem?_append_left (by simpa using hi)]
  | e :: r, k + 1, hk, i, hi => by
    have := ent_get r k (by simpa using hk) i hi
    simp only [List.flatMap_cons, List.getElem_cons_succ] at this ⊢
    rw [List.getElem?_append_right (by simp; omega), show (k + 1) * 15 + i - (entC e).length = k * 15 + i by simp; omega]
    exact this
theorem ent_of_own {w : World} {B : Nat} {v : Value} {l : List Ent} (h : w.ownsRow B 55 15 v l.length (l.flatMap entC)) : EntAt w v l := by
  have h' := h
  rcases h.2 with ⟨rfl, h0⟩ | ⟨g, cap, cur, rfl, hb, hg, _⟩
  · exact ⟨none, 0, by rw [h0], fun h1 => by omega⟩
  · refine ⟨_, cap, rfl, fun h0 => ⟨g, 0, rfl, (Array.getElem?_eq_some_iff.1 hg).1, fun k hk i hi => ?_⟩⟩
    have e := ent_get l k hk i hi
    rw [Nat.zero_add]
    cases hu : (entC l[k])[i]? with
    | none => rw [List.getElem?_eq_none_iff] at hu; simp at hu; omega
    | some u => exact own_cell h' (e.trans hu)
theorem own_slice {w : World} {B : Nat} {e : TypeId} {size : Nat} {v : Value} {n : Nat} {xs : List Value} (h : w.ownsRow B e size v n xs) : ∃ ad cap, v = .slice ad n cap := by
  rcases h.2 with ⟨rfl, h0⟩ | ⟨g, cap, cur, rfl, _⟩
  · subst h0; exact ⟨none, 0, rfl⟩
  · exact ⟨_, _, rfl⟩
theorem own_low {w : World} {B B' : Nat} {e : TypeId} {size : Nat} {v : Value} {n : Nat} {xs : List Value} (h : w.ownsRow B e size v n xs) (hb : B' ≤ B) : w.ownsRow B' e size v n xs := by
  refine ⟨h.1, ?_⟩
  rcases h.2 with h0 | ⟨g, cap, cur, e1, e2, rest⟩
  · exact .inl h0
  · exact .inr ⟨g, cap, cur, e1, by omega, rest⟩
/-- The row of a list is a row of entries. -/
def TyOf (w : World) (v : Value) : Prop := ∀ b off n cap, v = .slice (some ⟨b, off, none⟩) n cap → ∃ c z, w.heap[b]? = some (.cells c 55 z)
def EntT (w : World) (v : Value) (l : List Ent) : Prop := EntAt w v l ∧ TyOf w v
theorem TyOf.below {w w' : World} {v : Value} (h : TyOf w v) (hb : Below w.heap.size w w') : TyOf w' v := fun b off n cap e => by
  obtain ⟨c, z, hc⟩ := h b off n cap e
  exact ⟨c, z, by rw [hb.block _ (Array.getElem?_eq_some_iff.1 hc).1]; exact hc⟩
theorem EntT.below {w w' : World} {v : Value} {l : List Ent} (h : EntT w v l) (hb : Below w.heap.size w w') : EntT w' v l := ⟨h.1.below hb, h.2.below hb⟩
theorem ty_of_own {w : World} {B : Nat} {v : Value} {l : List Ent} (h : w.ownsRow B 55 15 v l.length (l.flatMap entC)) : TyOf w v := fun b off n cap e => by
  rcases h.2 with ⟨rfl, h0⟩ | ⟨g, cap, cur, rfl, hb, hg, _⟩
  · cases e
  · cases e; exact ⟨_, _, hg⟩
theorem entT_of_own {w : World} {B : Nat} {v : Value} {l : List Ent} (h : w.ownsRow B 55 15 v l.length (l.flatMap entC)) : EntT w v l := ⟨ent_of_own h, ty_of_own h⟩
/-- The list that is being built. -/
structure OutAt (w wr : World) (v : Value) (out : List Ent) : Prop where
  below : Below w.heap.size w wr
  own : wr.ownsRow w.heap.size 55 15 v out.length (out.flatMap entC)
theorem out_nil (w wr : World) (h : Below w.heap.size w wr) : OutAt w wr (.slice none 0 0) [] := ⟨h, rfl, .inl ⟨rfl, rfl⟩⟩
theorem OutAt.app {w wr w5 : World} {v v' : Value} {out : List Ent} {e : Ent} {o : Obj} (h : OutAt w wr v out) (hown : w5.ownsRow w.heap.size 55 15 v' (out.length + 1) (out.flatMap entC ++ entC e)) (hg : (wr.alloc o).grownBy w5 v.ownBlock) : OutAt w w5 v' (out ++ [e]) := by
  have hs := h.below.size
  refine ⟨below_grown (Below.alloc h.below hs o) hg (by simp; omega) (fun k hk => (h.own.lt k hk).1), ?_⟩
  rw [List.length_append, List.flatMap_append]
  simpa using hown
theorem OutAt.gw {w wr : World} {v : Value} {out : List Ent} (h : OutAt w wr v out) (p : Regrown) : OutAt w (gw wr p) v out :=
  ⟨below_gw h.below h.below.size p, own_gw h.own p⟩
theorem clear_take {l : List Ent} {o : Int} {k : Nat} (hk : k < l.length) : clearM (l.take (k + 1)) o = clearM (l.take k) o ++ if l[k].1 = o then [] else [l[k]] := by
  unfold clearM
  rw [List.take_succ_eq_append_getElem hk, List.filter_append]
  congr 1
  by_cases h : l[k].1 = o <;> simp [h]
theorem clear_len (l : List Ent) (o : Int) : (clearM l o).length ≤ l.length := List.length_filter_le _ _

theorem cell_info : ∃ (i : TypeInfo) (z : Value), Hid (Try.prog.info? 55 = some i ∧ i.zero = some z ∧ i.size = 15 ∧ i.bytes = 120 ∧ z.cells.size = 15) := by
  have h : (Try.prog.info? 55).map (fun i => (i.zero.map (fun z => z.cells.size), i.size, i.bytes)) = some (some 15, 15, 120) := by kernel_rfl
  cases hi : Try.prog.info? 55 with
  | none => rw [hi] at h; cases h
  | some i =>
    rw [hi] at h
    simp only [Option.map_some, Option.some.injEq, Prod.mk.injEq] at h
    obtain ⟨h1, h2, h3⟩ := h
    cases hz : i.zero with
    | none => rw [hz] at h1; cases h1
    | some z =>
      rw [hz] at h1
      simp only [Option.map_some, Option.some.injEq] at h1
      exact ⟨i, z, Lib.hid ⟨rfl, hz, h2, h3, h1⟩⟩
set_option maxRecDepth 100000 in
set_option maxHeartbeats 1000000 in
theorem clearR_any (v : Value) (l : List Ent) (o : Int) (w : World) (h : EntAt w v l) (hn : l.length ≤ 4000) :
    Calls Try.prog 20 #[v, .int .i64 o] w fun e w' => ∃ v', e = .returned v' ∧ OutAt w w' v' (clearM l o) := by
  obtain ⟨ad, cap, rfl, hrow⟩ := h
  have HR := Lib.hid hrow; clear hrow
  obtain ⟨i0, z0, HI⟩ := cell_info
  go_enter Try.func20, Try.ntmps20
  go_wp2
  go_loopw [5, 6] (fun v i wr => ∃ k : Nat, k ≤ l.length ∧ i = .int .i64 k ∧ OutAt w wr v (clearM (l.take k) o)) (fun _ i _ => l.length - (intOf i).toNat)
  case atStart => exact ⟨0, by omega, rfl, out_nil w w (Below.refl _ _)⟩
  case round =>
    obtain ⟨k, hk, rfl, ho⟩ := hrel
    have HO := Lib.hid ho; clear ho
    by_cases hlt : k < l.length
    · obtain ⟨b, off, rfl, hold, hcs⟩ := HR.out (by omega)
      have hcs' : ∀ k (h : k < l.length) i, i < 15 → _ := fun k h i hi => (HO.out.below.cell (p := ⟨b, off + k * 15 + i, none⟩) hold.lt).trans (hcs k h i hi)
      clear hcs
      have hcs := hcs'
      clear hcs'
      have e0 := hcs k hlt 0 (by omega)
      have e1 := hcs k hlt 1 (by omega)
      have e2 := hcs k hlt 2 (by omega)
      have e3 := hcs k hlt 3 (by omega)
      have e4 := hcs k hlt 4 (by omega)
      have e5 := hcs k hlt 5 (by omega)
      have e6 := hcs k hlt 6 (by omega)
      have e7 := hcs k hlt 7 (by omega)
      have e8 := hcs k hlt 8 (by omega)
      have e9 := hcs k hlt 9 (by omega)
      have e10 := hcs k hlt 10 (by omega)
      have e11 := hcs k hlt 11 (by omega)
      have e12 := hcs k hlt 12 (by omega)
      have e13 := hcs k hlt 13 (by omega)
      have e14 := hcs k hlt 14 (by omega)
      have HT := Lib.hid (clear_take (l := l) (o := o) hlt)
      have HLn := Lib.hid (clear_len (l.take k) o)
      have hlen : (l.take k).length ≤ 4000 := by simp; omega
      have kb : (k : Int) < l.length := by omega
      clear hcs
      generalize clearM (l.take k) o = out at *
      generalize l[k] = e at *
      obtain ⟨eo, ef, x⟩ := e
      simp at e0 e1 e2 e3 e4 e5 e6 e7 e8 e9 e10 e11 e12 e13 e14
      by_cases hloc : eo = o
      · subst hloc
        have qb : (eo != eo) = false := by simp
        go_wp2
        go_roundw
        case rel => exact ⟨k + 1, by omega, by go_num, by rw [HT.out]; simpa using HO.out⟩
        case measure => simp [intOf]; omega
      · have qb : (eo != o) = true := by simpa using hloc
        have HNE := Lib.hid hloc; clear hloc
        go_wp2_with (refine wpList_append_own _ rfl _ _ 29 rfl w.heap.size 55 i0 z0 15 120 rfl HI.out.1 HI.out.2.1 HI.out.2.2.1 HI.out.2.2.2.1 HI.out.2.2.2.2 (by omega) u5 out.length (out.flatMap entC) rfl (HO.out.own.alloc _) ⟨wr.heap.size, 0, none⟩ 1 1 (entC ((eo, ef, x) : Ent)) rfl rfl (news_row _ (entC ((eo, ef, x) : Ent)) _) (by simp [Value.oneCell']) (by have := HLn.out; simp only [maxLen]; omega) (by have := HLn.out; omega) (by have := HO.out.below.size; simp; omega) ?_; intro v' w5 hown hgrow hnil; have HM := Lib.hid (HO.out.app hown hgrow); clear hown hgrow hnil)
        go_roundw
        case rel => exact ⟨k + 1, by omega, by go_num, by rw [HT.out, if_neg HNE.out]; exact HM.out⟩
        case measure => simp [intOf]; omega
    · have hkn : k = l.length := by omega
      subst hkn
      have ho := HO.out
      rw [List.take_length] at ho
      clear HO
      have HO := Lib.hid ho; clear ho
      go_wp2
      go_ret
      exact ⟨_, rfl, HO.out⟩

end Go.Proofs.Ytioajmhfofmdoaa
