/- append onto a slice of the walk's own: a new object stands for what it yields. -/
import Derived.Test.YtbhkcejjehgfcaaAk
namespace Go.Proofs.Ytbhkcejjehgfcaa
open Go.RowKit Go.Sort
set_option linter.unusedSimpArgs false
set_option linter.unusedVariables false

section
variable {P : Program} {o : Oper} {s : ASt}
theorem op_appendW (x y : Operand) (ty tag : Nat) (e n bytes : Nat) (rows ys : List (List PV)) (h : o.op = .call { callee := .builtin .append, args := #[x, y], argTypes := #[ty, ty] }) (hx : s.ev x = .own tag) (hlk : s.hp.lookup tag = some (.row e n rows))
    (ht : elemTyB P ty = some (e, n, bytes)) (hy : s.ev y = .p (.seq n ys)) (h63 : rows.length + ys.length ≤ maxLen) (hbytes : (rows.length + ys.length) * bytes ≤ 140737488355328) (hd : ∀ t, o.dst = some t → t < s.n) :
    OpEff P o s (ASt.put { s with hp := (s.N, .row e n (rows ++ ys)) :: s.hp.filter fun p => p.1 != tag, N := s.N + 1 } o.dst (.own s.N)) := fun L loc a w hr => by
  have h1 := hr.ev x (fun _ _ => trivial)
  have h2 := hr.ev y (fun _ _ => trivial)
  rw [hx] at h1
  rw [hy] at h2
  obtain ⟨htN, u, hu, hor⟩ := hr.hp.at' tag _ hlk
  obtain ⟨flat, hown, hrn, hfl, hone⟩ := hor
  generalize hax : a.eval x = ax at h1
  cases h1 with
  | own _ _ _ _ hv =>
  obtain rfl : u = ax := (hv u hu).symm
  generalize hay : a.eval y = ay at h2
  cases h2 with
  | p _ _ hp =>
  obtain ⟨v', w', news, hrun, hown', hg, hat, hone2, hyn, hpr⟩ := run_append_seq (P := P) (ty := o.type) (elemTy_of ht) hown hp h63 hbytes
  let loc2 : Nat → Option Value := fun k => if k = s.N then some v' else if k = tag then none else loc k
  have lN : loc2 s.N = some v' := by simp [loc2]
  have lO : ∀ k z, loc2 k = some z → (k = s.N ∧ z = v') ∨ (k ≠ s.N ∧ k ≠ tag ∧ loc k = some z) := fun k z hz => by
    simp only [loc2] at hz
    split at hz
    · rename_i e1; cases hz; exact .inl ⟨e1, rfl⟩
    · rename_i e1
      split at hz
      · cases hz
      · rename_i e2; exact .inr ⟨e1, e2, hz⟩
  have lS : ∀ k, k ≠ s.N → k ≠ tag → loc2 k = loc k := fun k h1 h2 => by simp [loc2, h1, h2]
  have hblk : ∀ b, blkOf v' = some b → blkOf u = some b ∨ b = w.heap.size := fun b hb => by
    have hb' := own_blk hown' hb
    rcases hat with e' | e'
    · rw [e'] at hb'; exact .inl (blk_own hb')
    · rw [e'] at hb'; cases hb'; exact .inr rfl
  have hDu : ∀ b, u.ownBlock = some b → Dm L loc b := fun b hb => .inr ⟨tag, u, hu, blk_own hb⟩
  have hk : Kp (Dm L loc) w w' := ⟨hg.os, hg.tape, hg.output, hg.size, fun k hk hn => hg.block k hk (fun e => hn (hDu k e.symm)), run_drawn hrun⟩
  have hdm : ∀ b, Dm L loc2 b → Dm L loc b ∨ b = w.heap.size := fun b hb => by
    rcases hb with hb | ⟨k, z, h3, h4⟩
    · exact .inl (.inl hb)
    · rcases lO k z h3 with ⟨_, rfl⟩ | ⟨_, _, h5⟩
      · exact (hblk b h4).imp (fun h => .inr ⟨tag, u, hu, h⟩) (fun h => h)
      · exact .inl (.inr ⟨k, z, h5, h4⟩)
  have hD : ∀ k, k < w.heap.size → Dm L loc2 k → Dm L loc k := fun k hk hd => (hdm k hd).resolve_right (by omega)
  have hlc : ∀ k z, k < s.N → loc2 k = some z → loc k = some z := fun k z hlt hz => by
    rcases lO k z hz with ⟨e1, _⟩ | ⟨_, _, h5⟩
    · omega
    · exact h5
  have hrun' : (execOp a.eval o).run P w = .ok (.value v') w' := by
    simp only [execOp, h, resolve, invoke, builtin, Sem.run_bind, Sem.run_pure, Result.andThen_ok, List.map_toArray, List.map_cons, List.map_nil, hax, hay, hrun]
  have hv1 : v'.oneCell' = true := by rcases hown'.2 with ⟨rfl, _⟩ | ⟨g, c, cur, rfl, _⟩ <;> rfl
  have hNd : loc s.N = none := hr.hp.dead s.N (hr.hp.none_at (Nat.le_refl _))
  unfold Oper.wp
  rw [hrun']
  refine ⟨loc2, ?_, ⟨⟨hg.os, hg.tape, hg.output, hg.size, fun k hk hn => hg.block k hk (fun e => hn (.inr ⟨tag, u, hu, blk_own e.symm⟩)), run_drawn hrun⟩, fun b hb => ?_⟩⟩
  · refine Rel.put' (s := { s with hp := (s.N, .row e n (rows ++ ys)) :: s.hp.filter fun p => p.1 != tag, N := s.N + 1 }) ⟨hr.defers, hr.size, fun t _ => ?_, ⟨fun t ob ht => ?_, fun t ht => ?_, fun t t' z z' b e1 e2 e3 e4 => ?_, fun b hL => Nat.lt_of_lt_of_le (hr.hp.inL b hL) hg.size, fun t z b e1 e2 hL => ?_⟩⟩ hd (.own s.N v' (Nat.lt_succ_self _) hv1 fun z hz => ?_)
    · exact (hr.fr t trivial).mono (Nat.le_succ _) hk hD hlc
    · change List.lookup t ((s.N, _) :: List.filter _ _) = some ob at ht
      by_cases e1 : t = s.N
      · subst e1
        rw [lookup_cons_eq] at ht
        cases ht
        refine ⟨Nat.lt_succ_self _, v', lN, flat ++ news, by rw [List.length_append]; exact hown', fun r hr' => (List.mem_append.1 hr').elim (hrn r) (hyn r), ?_, fun v hv => (List.mem_append.1 hv).elim (hone v) (hone2 v)⟩
        have := flat_append hown.1 hfl hpr
        exact fun k r j x h1 h2 => let ⟨v, h3, h4⟩ := this k r j x h1 h2; ⟨v, h3, h4.mono hk hD⟩
      · rw [lookup_cons_ne e1, lookup_filter] at ht
        split at ht
        · cases ht
        · rename_i e2
          obtain ⟨h5, z, h6, h7⟩ := hr.hp.at' t ob ht
          refine ⟨Nat.lt_succ_of_lt h5, z, by rw [lS t e1 e2]; exact h6, h7.mono (Nat.le_succ _) hk hD hlc (fun b hb => hg.block b (h7.blk_lt hb) (fun e' => ?_))⟩
          exact e2 (hr.hp.apart t tag z u b h6 hu hb (blk_own e'.symm))
    · change List.lookup t ((s.N, _) :: List.filter _ _) = none at ht
      by_cases e1 : t = s.N
      · subst e1; rw [lookup_cons_eq] at ht; cases ht
      · rw [lookup_cons_ne e1, lookup_filter] at ht
        by_cases e2 : t = tag
        · simp [loc2, e2]; intro e3; omega
        · rw [if_neg e2] at ht
          rw [lS t e1 e2]; exact hr.hp.dead t ht
    · have new : ∀ k z, k ≠ s.N → k ≠ tag → loc k = some z → blkOf z = some b → blkOf v' = some b → False := fun k z h3 h4 h5 h6 h7 => by
        rcases hblk b h7 with e5 | e5
        · exact h4 (hr.hp.apart k tag z u b h5 hu h6 e5)
        · obtain ⟨o', _, ho'⟩ := hr.hp.loc_obj h5
          have := ho'.blk_lt h6
          omega
      rcases lO t z e1 with ⟨a1, rfl⟩ | ⟨a1, a2, a3⟩
      · rcases lO t' z' e2 with ⟨b1, _⟩ | ⟨b1, b2, b3⟩
        · rw [a1, b1]
        · exact (new t' z' b1 b2 b3 e4 e3).elim
      · rcases lO t' z' e2 with ⟨b1, rfl⟩ | ⟨b1, b2, b3⟩
        · exact (new t z a1 a2 a3 e3 e4).elim
        · exact hr.hp.apart t t' z z' b a3 b3 e3 e4
    · rcases lO t z e1 with ⟨a1, rfl⟩ | ⟨a1, a2, a3⟩
      · rcases hblk b e2 with e5 | e5
        · exact hr.hp.notL tag u b hu e5 hL
        · have := hr.hp.inL b hL; omega
      · exact hr.hp.notL t z b a3 e2 hL
    · rw [lN] at hz; cases hz; rfl
  · rcases hb with hb | ⟨k, z, h3, h4⟩
    · exact hb.elim
    · rcases lO k z h3 with ⟨_, rfl⟩ | ⟨_, _, h5⟩
      · exact (hblk b h4).imp (fun h => .inr ⟨tag, u, hu, h⟩) (fun h => by omega)
      · exact .inl (.inr ⟨k, z, h5, h4⟩)
end
end Go.Proofs.Ytbhkcejjehgfcaa
