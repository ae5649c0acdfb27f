/- The document's memory: Pages. -/
import Derived.Test.YtioajmhfofmdoaaRf
import Derived.BigQuiet
namespace Go.Proofs.Ytioajmhfofmdoaa
open Go.RowKit Go.Sort

theorem wrap_i64 {x : Int} (h : -9223372036854775808 ≤ x ∧ x ≤ 9223372036854775807) : IntKind.i64.wrap x = x := by
  rw [IntKind.wrap_i64]; omega
theorem drewN_gw (w : World) (q : Regrown) (n : Nat) : (gw w q).drewN n = gw w ⟨q.d + n, q.os⟩ := rfl
def entD (l : List Ent) (k : Nat) : Ent := l.getD k (0, 0, wz)
/-- Pages of the first k entries. -/
def pagesK (l : List Ent) : Nat → Nat
  | 0 => 0
  | k + 1 => pagesK l k + if k = 0 ∨ pageE (entD l (k - 1)) (entD l k) = false then 1 else 0
theorem pagesK_le (l : List Ent) : ∀ k, pagesK l k ≤ k
  | 0 => Nat.le_refl _
  | k + 1 => by have := pagesK_le l k; simp only [pagesK]; split <;> omega

set_option maxRecDepth 100000 in
set_option maxHeartbeats 4000000 in
theorem pagesR_any (v : Value) (l : List Ent) (w : World) (h : EntAt w v l) (hn : l.length ≤ 1000) (hb : ∀ e ∈ l, 0 ≤ e.2.1 ∧ e.2.1 ≤ 9223372036854775807) :
    Calls Try.prog 17 #[v] w (Gives (.int .i64 (pagesK l l.length)) w) := by
  obtain ⟨ad, cap, rfl, hrow⟩ := h
  have HR := Lib.hid hrow; clear hrow
  go_enter Try.func17, Try.ntmps17
  go_wp2
  go_loopw [3, 4] (fun p i wr => ∃ k : Nat, ∃ q, k ≤ l.length ∧ i = .int .i64 k ∧ p = .int .i64 (pagesK l k) ∧ wr = gw w q) (fun _ i _ => l.length - (intOf i).toNat)
  case atStart => exact ⟨0, _, by omega, rfl, rfl, gw_self _⟩
  case round =>
    obtain ⟨k, q, hk, rfl, rfl, rfl⟩ := hrel
    have hple := pagesK_le l k
    by_cases hlt : k < l.length
    · obtain ⟨b, off, rfl, hold, hcs⟩ := HR.out (by omega)
      have kb : (k : Int) < l.length := by omega
      by_cases hk0 : k = 0
      · have HN := Lib.hid (show pagesK l (k + 1) = pagesK l k + 1 by rw [pagesK, if_pos (.inl hk0)])
        have q0 : ((k : Int) == 0) = true := by rw [beq_iff_eq]; omega
        clear hcs hold hk0
        go_wp2
        go_quiet (fail)
        rw [drewN_gw]
        go_wp2
        go_roundw
        case rel =>
          exact ⟨k + 1, _, by omega, by go_num, by rw [HN.out]; go_num, rfl⟩
        case measure => simp [intOf]; omega
      · obtain ⟨j, rfl⟩ : ∃ j, k = j + 1 := ⟨k - 1, by omega⟩
        have e0 := hcs (j + 1) hlt 0 (by omega)
        have e1 := hcs (j + 1) hlt 1 (by omega)
        have g0 := hcs j (by omega) 0 (by omega)
        have g1 := hcs j (by omega) 1 (by omega)
        have HN := Lib.hid (show pagesK l (j + 1 + 1) = pagesK l (j + 1) + if pageE l[j] l[j + 1] = false then 1 else 0 by
          rw [pagesK]
          simp [entD, hlt, show j < l.length by omega])
        clear hcs
        have hbe := hb _ (List.getElem_mem hlt)
        have hbg := hb _ (List.getElem_mem (show j < l.length by omega))
        generalize l[j + 1] = e at *
        generalize l[j] = g at *
        obtain ⟨eo, ef, y⟩ := e
        obtain ⟨go', gf, z⟩ := g
        simp only [entC, List.getElem?_cons_zero, List.getElem?_cons_succ, Nat.add_zero] at e0 e1 g0 g1
        have q0 : (((j : Int) + 1) == 0) = false := by rw [beq_eq_false_iff_ne]; omega
        have kt : ((j : Int) + 1).toNat = j + 1 := by omega
        have kw : IntKind.i64.wrap (j : Int) = j := wrap_i64 (by omega)
        have kb1 : 0 ≤ (j : Int) + 1 ∧ (j : Int) + 1 < l.length := by omega
        have kb2 : (j : Int) < l.length := by omega
        simp only at hbe hbg
        have wq1 : IntKind.i64.wrap (ef.tdiv 16) = ef.tdiv 16 := wrap_i64 (by rw [Int.tdiv_eq_ediv_of_nonneg hbe.1]; omega)
        have wq2 : IntKind.i64.wrap (gf.tdiv 16) = gf.tdiv 16 := wrap_i64 (by rw [Int.tdiv_eq_ediv_of_nonneg hbg.1]; omega)
        clear hb hbe hbg
        by_cases ho : eo = go'
        · subst ho
          have qa : (eo != eo) = false := by simp
          by_cases hf : ef.tdiv 16 = gf.tdiv 16
          · have qb : (ef.tdiv 16 != gf.tdiv 16) = false := by simp [hf]
            have HN2 := Lib.hid (show pagesK l (j + 1 + 1) = pagesK l (j + 1) by rw [HN.out]; simp [pageE, hf])
            clear hf HN
            go_wp2
            go_quiet (fail)
            rw [drewN_gw]
            go_wp2
            go_roundw
            case rel =>
              exact ⟨j + 1 + 1, _, by omega, by go_num, by rw [HN2.out], rfl⟩
            case measure => simp [intOf]; omega
          · have qb : (ef.tdiv 16 != gf.tdiv 16) = true := by simpa using hf
            have HN2 := Lib.hid (show pagesK l (j + 1 + 1) = pagesK l (j + 1) + 1 by rw [HN.out, if_pos]; simp [pageE]; exact fun h => hf h.symm)
            clear hf HN
            go_wp2
            go_quiet (fail)
            rw [drewN_gw]
            go_wp2
            go_roundw
            case rel =>
              exact ⟨j + 1 + 1, _, by omega, by go_num, by rw [HN2.out]; go_num, rfl⟩
            case measure => simp [intOf]; omega
        · have qa : (eo != go') = true := by simpa using ho
          have HN2 := Lib.hid (show pagesK l (j + 1 + 1) = pagesK l (j + 1) + 1 by rw [HN.out, if_pos]; simp [pageE]; exact fun h => absurd h.symm ho)
          clear ho HN
          go_wp2
          go_quiet (fail)
          rw [drewN_gw]
          go_wp2
          go_roundw
          case rel =>
            exact ⟨j + 1 + 1, _, by omega, by go_num, by rw [HN2.out]; go_num, rfl⟩
          case measure => simp [intOf]; omega
    · have e : k = l.length := by omega
      subst e
      go_wp2
      go_ret; exact Gives.mk rfl (by repeat (first | exact Below.refl _ _ | refine below_gw ?_ (by simp; try omega) _ | refine Below.alloc ?_ (by simp; try omega) _ | refine Below.setCell ?_ (by simp; try omega) _ | refine Below.drew ?_))

end Go.Proofs.Ytioajmhfofmdoaa
