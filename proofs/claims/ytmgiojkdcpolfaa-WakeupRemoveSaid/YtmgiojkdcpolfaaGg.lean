/- grow: sequences inserted into an empty tree, in the program and in the reference. -/
import Derived.Test.YtmgiojkdcpolfaaRo
import Derived.Test.YtmgiojkdcpolfaaEq
namespace Go.Proofs.Ytmgiojkdcpolfaa
open Go.RowKit Go.Sort PT

theorem newN_facts : ∀ (l : List PS) (q : List Nat) (n : Nat), (newN q n l).length = l.length ∧ ∀ x ∈ newN q n l, x.2 ∈ l ∧ x.1.length ≤ q.length + l.length
  | [], _, _ => ⟨rfl, fun x hx => (by simp [newN] at hx)⟩
  | y :: l, q, n => by
    obtain ⟨h1, h2⟩ := newN_facts l (q ++ [n]) 0
    refine ⟨by simp [newN, h1], fun x hx => ?_⟩
    rw [newN] at hx
    rcases List.mem_cons.1 hx with rfl | hx
    · exact ⟨List.mem_cons.2 (.inl rfl), by simp⟩
    · have := h2 x hx
      exact ⟨List.mem_cons.2 (.inr this.1), by have := this.2; simp at this ⊢; omega⟩
mutual
theorem rI_facts : ∀ (t : T) (q : List Nat) (l : List PS) (root : Bool), (rI t q l root).length ≤ l.length ∧ ∀ x ∈ rI t q l root, x.2 ∈ l ∧ x.1.length ≤ q.length + cnt t + l.length
  | .nd s ks, q, l, root => by
    rw [rI]
    split
    · exact ⟨by simp, fun x hx => (by simp at hx)⟩
    · cases hr : rL ks q 0 l with
      | none =>
        obtain ⟨h1, h2⟩ := newN_facts l q ks.length
        exact ⟨by simp [h1], fun x hx => ⟨(h2 x hx).1, by have := (h2 x hx).2; omega⟩⟩
      | some new =>
        obtain ⟨h1, h2⟩ := rL_facts ks q 0 l new hr
        exact ⟨by simpa using h1, fun x hx => ⟨(h2 x hx).1, by have := (h2 x hx).2; simp only [cnt]; omega⟩⟩
theorem rL_facts : ∀ (ks : List T) (q : List Nat) (j : Nat) (l : List PS) (new : List En), rL ks q j l = some new → new.length ≤ l.length ∧ ∀ x ∈ new, x.2 ∈ l ∧ x.1.length ≤ q.length + 1 + cntL ks + l.length
  | [], _, _, _, _, h => by simp [rL] at h
  | k :: ks, q, j, l, new, h => by
    rw [rL] at h
    cases hw : wo l k.s with
    | none =>
      rw [hw] at h
      obtain ⟨h1, h2⟩ := rL_facts ks q (j + 1) l new h
      exact ⟨h1, fun x hx => ⟨(h2 x hx).1, by have := (h2 x hx).2; simp only [cntL]; omega⟩⟩
    | some rest =>
      rw [hw] at h
      simp only [Option.some.injEq] at h
      subst h
      have hl := wo_len hw
      obtain ⟨h1, h2⟩ := rI_facts k (q ++ [j]) rest false
      exact ⟨by omega, fun x hx => ⟨wo_sub hw _ (h2 x hx).1, by have := (h2 x hx).2; simp only [cntL, List.length_append, List.length_singleton] at this ⊢; omega⟩⟩
end
theorem insL_s : ∀ (ks : List T) (l : List PS) (r : List T), insL ks l = some r → r.map T.s = ks.map T.s
  | [], l, r, h => by simp [insL] at h
  | k :: ks, l, r, h => by
    rw [insL] at h
    cases hw : wo l k.s with
    | none =>
      rw [hw] at h
      simp only [Option.map_eq_some_iff] at h
      obtain ⟨r', h1, rfl⟩ := h
      simp [insL_s ks l r' h1]
    | some rest =>
      rw [hw] at h
      simp only [Option.some.injEq] at h
      subst h
      simp [insT_s]
theorem insL_no : ∀ (ks : List T) (l : List PS), insL ks l = none → ∀ k ∈ ks, wo l k.s = none
  | [], _, _, _, hk => by cases hk
  | k :: ks, l, h, x, hx => by
    rw [insL] at h
    cases hw : wo l k.s with
    | none =>
      rw [hw] at h
      simp only [Option.map_eq_none_iff] at h
      rcases List.mem_cons.1 hx with rfl | hx
      · exact hw
      · exact insL_no ks l h x hx
    | some rest => rw [hw] at h; cases h
theorem insT_dist {t : T} {l : List PS} {root : Bool} (h : Dist (t.ks.map T.s)) : Dist ((insT t l root).ks.map T.s) := by
  cases t with
  | nd s ks =>
    rw [insT]
    split
    · exact h
    · rename_i hl
      simp only [T.ks] at h ⊢
      cases hi : insL ks l with
      | some r => simp only [Option.getD_some]; rw [insL_s ks l r hi]; exact h
      | none =>
        simp only [Option.getD_none]
        cases l with
        | nil => simp at hl
        | cons x l =>
          rw [chain, List.map_append]
          refine List.pairwise_append.2 ⟨h, by simp, fun a ha b hb => ?_⟩
          simp only [List.map_cons, List.map_nil, List.mem_singleton, T.s] at hb
          rw [hb]
          obtain ⟨k, hk, rfl⟩ := List.mem_map.1 ha
          have hw := insL_no ks (x :: l) hi k hk
          cases hp : pk k.s x with
          | false => rfl
          | true =>
            rw [pk_comm] at hp
            rw [wo_hit (l := x :: l) (k := 0) (y := x) (by simp [List.findIdx?_cons, hp]) rfl, if_pos (by simp [iniB])] at hw
            cases hw
theorem sh_t0 : sh t00 = .nd t00.s [] := by simp [sh, shL, PT.s]
/-- What has grown. -/
structure GI (w wr : World) (b2 b4 k : Nat) (t : PT) (au : Option Addr) (u : List Nd) (cu : Nat) : Prop where
  tw : TW w wr b4 t
  z2 : wr.heap[b2]? = some zTree
  nds : Nds wr au u
  nil : au = none → cu = 0
  rep : RepT (u.map en) [] (sh t)
  cn : cnt (sh t) ≤ 1 + 8 * k
  ul : u.length ≤ 8 * k
  pl : ∀ x ∈ u, x.p.length ≤ 200
  rd : ∀ x ∈ u, Rd w x.s
  lo : NdB (b4 + 1) au u
  fr : Fresh (b2 + 1) t
  ds : Dist ((sh t).ks.map T.s)
def GrowP (w : World) (e : Ending) (w' : World) : Prop := ∃ (t : PT) (au : Option Addr) (u : List Nd) (cu : Nat), e = .returned (.tuple #[trV t, .slice au u.length cu]) ∧ Lies w w' t ∧ Nds w' au u ∧ RepT (u.map en) [] (sh t) ∧ cnt (sh t) ≤ 65 ∧ u.length ≤ 64 ∧ Below w.heap.size w w' ∧ Dist ((sh t).ks.map T.s)
/-- Another box is written. -/
theorem Nds.off {w Z V : World} {b : Nat} {au : Option Addr} {u : List Nd} (h : Nds Z au u) (hlo : NdB (b + 1) au u) (hg : Z.grownBy V (some b)) (hrd : ∀ x ∈ u, Rd w x.s) (hV : Below w.heap.size w V) : Nds V au u := by
  have hk : ∀ {n : Nat} {α : Type} {f : α → List Value} {ad : Option Addr} {l : List α}, Row n f Z ad l → (∀ c off, 0 < l.length → ad = some ⟨c, off, none⟩ → b + 1 ≤ c) → Row n f V ad l := fun hr hl => hr.keepB fun c off h0 e => by
    obtain ⟨c', off', e', ho, _⟩ := hr h0
    rw [e] at e'
    cases e'
    refine hg.block c ho fun e2 => ?_
    cases e2
    have := hl _ _ h0 e
    omega
  exact ⟨hk h.row hlo.1, fun x hx => hk (h.at' x hx) (hlo.2 x hx), h.len, fun x hx => (hrd x hx).below hV⟩
theorem NdB.sub {n : Nat} {au : Option Addr} {u : List Nd} (h : NdB (n + 1) au u) : NdB n au u := ⟨fun b off h0 e => by have := h.1 b off h0 e; omega, fun x hx b off h0 e => by have := h.2 x hx b off h0 e; omega⟩

set_option maxRecDepth 100000 in
set_option maxHeartbeats 4000000 in
theorem grow50_any (ad : Option Addr) (ps : List PA) (cap : Nat) (w : World) (hr : Row 1 paC w ad ps) (hs : ∀ q ∈ ps, SeqF w q) (hl : ps.length ≤ 8) :
    Calls Try.prog 11 #[.slice ad ps.length cap] w (GrowP w) := by
  have HR := Lib.hid hr
  have HSF := Lib.hid hs
  clear hr hs
  have hz : ∀ (W : World), Below w.heap.size w W → TW w (W.alloc (.cells #[.int .i64 0, .int .i64 0, .slice none 0 0, .slice none 0 0, .slice none 0 0] 33)) W.heap.size t00 := fun W h => TW.new h
  have hb1 : Below w.heap.size w (w.alloc (.cells #[.int .i64 0, .int .i64 0, .slice none 0 0, .slice none 0 0, .slice none 0 0] 33)) := (Below.refl _ _).alloc (Nat.le_refl _) _
  have HG0 := Lib.hid (show GI w ((w.alloc (.cells #[.int .i64 0, .int .i64 0, .slice none 0 0, .slice none 0 0, .slice none 0 0] 33)).alloc (.cells #[.int .i64 0, .int .i64 0, .slice none 0 0, .slice none 0 0, .slice none 0 0] 33)) w.heap.size (w.heap.size + 1) 0 t00 none [] 0 from by
    have h1 := hz _ hb1
    rw [show (w.alloc (.cells #[.int .i64 0, .int .i64 0, .slice none 0 0, .slice none 0 0, .slice none 0 0] 33)).heap.size = w.heap.size + 1 by simp] at h1
    exact ⟨h1, (Below.heap_alloc _ _ _ (by simp)).trans (heap_alloc_at' _ _ _ rfl), ⟨Row.nil _, fun x hx => (by cases hx), fun x hx => (by cases hx), fun x hx => (by cases hx)⟩, fun _ => rfl, by rw [sh_t0]; exact rep_nil _, by rw [sh_t0]; simp [cnt, cntL], by simp, fun x hx => (by cases hx), fun x hx => (by cases hx), ⟨fun b off h0 _ => absurd h0 (by simp), fun x hx => (by cases hx)⟩, fun n hn a e => (by simp [nodes, nodesL] at hn; subst hn; cases e), by rw [sh_t0]; exact List.Pairwise.nil⟩)
  clear hz hb1
  go_enter Try.func11, Try.ntmps11
  go_wp2
  go_loopw [5, 6] (fun uv iv wr => ∃ (k : Nat) (t : PT) (au : Option Addr) (u : List Nd) (cu : Nat), k ≤ ps.length ∧ iv = .int .i64 k ∧ uv = .slice au u.length cu ∧ Hid (GI w wr w.heap.size (w.heap.size + 1) k t au u cu)) (fun _ iv _ => ps.length - (intOf iv).toNat)
  case atStart => exact ⟨0, t00, none, [], 0, by omega, rfl, rfl, HG0⟩
  case round =>
    clear HG0
    obtain ⟨k, t, au, u, cu, hk, rfl, rfl, hgi⟩ := hrel
    have HGI := Lib.hid hgi.out
    clear hgi
    by_cases hlt : k < ps.length
    · have kb : (k : Int) < ps.length := by omega
      obtain ⟨q, hq⟩ := get_some hlt
      have HQ := Lib.hid hq
      have HF := Lib.hid (HSF.out q (List.mem_of_getElem? hq))
      clear hq
      go_wp2
      have hqb : ∀ q : Regrown, Below wr.heap.size wr (gw wr.drew q) := fun q => ((Below.refl _ wr).drew).trans (gw_below wr.drew q)
      have HQB := Lib.hid hqb
      have HRQ := Lib.hid (fun r => ((HR.out.below HGI.out.tw.below).below (hqb r)).get HQ.out)
      have HTQ := Lib.hid (fun r => (HGI.out.tw.mono (hqb r)).tb)
      have HWQ := Lib.hid (fun r => (HGI.out.tw.mono (hqb r)).below)
      have HC := Lib.hid (fun r => insertP_any w t (gw wr.drew r) q.l q.ad q.cap (by rw [nodes_cnt]; have := HGI.out.cn; omega) (HTQ.out r).lies (HWQ.out r) (HF.out.row.below (HWQ.out r)) HF.out.rd HF.out.cap HF.out.nil (by have := HF.out.len; omega))
      clear hqb
      obtain ⟨b, off, rfl, _, _⟩ := (HR.out.below HGI.out.tw.below).get HQ.out
      refine wp_region_relP 6 [13, 14, 15, 16, 17, 18] [fun _ v => v = trV t, fun _ v => v = .slice (some ⟨b, off, none⟩) ps.length cap, fun _ v => v = .int .i64 k, fun _ v => v = .pointer (some ⟨b, off + k, none⟩), fun _ v => v = paV q, fun w' v => UF w (insT (sh t) q.l true) wr.heap.size w' v]
        (by kernel_rfl) (by kernel_rfl) rfl rfl (by simp only [List.drop_succ_cons, List.drop_zero]; rfl) (by decide) rfl (by kernel_rfl) ?_ ?_ ?_
      · exact ⟨fun _ _ _ h => h, fun _ _ _ h => h, fun _ _ _ h => h, fun _ _ _ h => h, fun _ _ _ h => h, fun _ _ q h => h.gw q, trivial⟩
      · refine ⟨?_, ?_, ?_, ?_, ?_, ?_, trivial⟩
        · refine relAt_seen [4] rfl rfl rfl fun a r hs => ?_
          simp [allSeen, FofL, slot] at hs
          obtain ⟨u0, u1, u2, u3, u4, _⟩ := (HTQ.out r).cells
          simp [execOp, relUpon, FofL, go_sem, gw_ex_self, hs, u0, u1, u2, u3, u4]
        · refine relAt_seen [0] rfl rfl rfl fun a r hs => ?_
          simp [allSeen, FofL, slot] at hs
          simp [execOp, relUpon, FofL, go_sem, gw_ex_self, hs]
        · refine relAt_seen [6] rfl rfl rfl fun a r hs => ?_
          simp [allSeen, FofL, slot] at hs
          simp [execOp, relUpon, FofL, go_sem, gw_ex_self, hs]
        · refine relAt_seen [14, 15] rfl rfl rfl fun a r hs => ?_
          simp [allSeen, FofL, slot] at hs
          simp [execOp, relUpon, FofL, go_sem, gw_ex_self, hs, kb]
        · refine relAt_seen [16] rfl rfl rfl fun a r hs => ?_
          simp [allSeen, FofL, slot] at hs
          obtain ⟨b', off', e, ho, hc⟩ := HRQ.out r
          cases e
          have c0 := hc 0 (by omega)
          simp at c0
          simp [execOp, relUpon, FofL, go_sem, gw_ex_self, hs, c0]
        · refine relAt_seen [13, 17] rfl rfl rfl fun a r hs => ?_
          simp [allSeen, FofL, slot] at hs
          simp only [execOp, relUpon, resolve, invoke, Sem.run_bind, List.map_toArray, List.map_cons, List.map_nil, Act.eval, Array.getD_eq_getD_getElem?, hs.1, hs.2]
          simp [go_sem]
          refine (HC.out r).mono ?_
          rintro e w' ⟨u', p', rfl, rfl, hsh, hl', hf⟩
          refine ⟨_, rfl, ?_, p', rfl⟩
          simp only [FofL, Nat.reduceEqDiff, if_true, if_false]
          exact ⟨u', rfl, hsh, hl', hf.mono (by simp)⟩
      · intro vs' r hlen hv
        match vs', hlen with
        | [v13, v14, v15, v16, v17, v18], hl0 =>
          clear hl0 hlen
          obtain ⟨h13, h14, h15, h16, h17, ⟨t', rfl, hsh, hlt', hft⟩, _⟩ := hv
          subst h13 h14 h15 h16 h17
          simp only [putL, Act.put, List.setIfInBounds_toArray, List.set_cons_zero, List.set_cons_succ]
          have hWb := HWQ.out r
          have hTr := HGI.out.tw.mono (HQB.out r)
          have hZ2 := ((HQB.out r).block _ (Array.getElem?_eq_some_iff.1 HGI.out.z2).1).trans HGI.out.z2
          have hN := HGI.out.nds.below (HQB.out r)
          have hb4 := HGI.out.tw.lt
          generalize gw wr.drew r = Z at *
          have hav : Avoid (some (w.heap.size + 1)) t' := Avoid.of_fresh hft hb4
          have HFT := Lib.hid (show Fresh (w.heap.size + 1) t' from hft.mono (by omega))
          have HTU := Lib.hid (TW.put hWb (Nat.le_succ _) hTr.row hlt' hav)
          have hgr := grown_five Z (w.heap.size + 1) (.int .i64 t'.s.g) (.int .i64 t'.s.c) (.slice t'.s.ga t'.s.gs.length t'.s.gc) (.slice t'.s.ta t'.s.ts.length t'.s.tc) (.slice t'.ad t'.ks.length t'.cap)
          have HZ2 := Lib.hid ((hgr.block _ (Array.getElem?_eq_some_iff.1 hZ2).1 (by simp)).trans hZ2)
          have HND := Lib.hid (hN.off HGI.out.lo hgr HGI.out.rd HTU.out.below)
          have hrc := row_cells hTr.row
          have r0 := (hrc 0).trans (show _ = some (.int .i64 t.s.g) from rfl)
          have r1 := (hrc 1).trans (show _ = some (.int .i64 t.s.c) from rfl)
          have r2 := (hrc 2).trans (show _ = some (.slice t.s.ga t.s.gs.length t.s.gc) from rfl)
          have r3 := (hrc 3).trans (show _ = some (.slice t.s.ta t.s.ts.length t.s.tc) from rfl)
          have r4 := (hrc 4).trans (show _ = some (.slice t.ad t.ks.length t.cap) from rfl)
          have hbf : ∀ i, World.frozen? Z ⟨w.heap.size + 1, i, none⟩ = false := fun i => by simp [World.frozen?, hTr.row]
          have og : Old (w.heap.size + 1) Z := Old.of_cell r0
          have HSH := Lib.hid hsh
          clear hrc hlt' hft hav hgr hWb hZ2 hN hTr hb4 hsh HC HTQ HWQ HQB HRQ
          go_step
          go_step
          go_step
          obtain ⟨V, hV⟩ : ∃ V, V = ((((Z.setCell ⟨w.heap.size + 1, 0, none⟩ (.int .i64 t'.s.g)).setCell ⟨w.heap.size + 1, 1, none⟩ (.int .i64 t'.s.c)).setCell ⟨w.heap.size + 1, 2, none⟩ (.slice t'.s.ga t'.s.gs.length t'.s.gc)).setCell ⟨w.heap.size + 1, 3, none⟩ (.slice t'.s.ta t'.s.ts.length t'.s.tc)).setCell ⟨w.heap.size + 1, 4, none⟩ (.slice t'.ad t'.ks.length t'.cap) := ⟨_, rfl⟩
          rw [← hV] at HTU HZ2 HND ⊢
          clear hV r0 r1 r2 r3 r4 hbf og
          obtain ⟨b₁, off₁, e, hob, hc⟩ := (HR.out.below HTU.out.below).get HQ.out
          cases e
          have c0 := hc 0 (by omega)
          simp at c0
          have hcnt := HGI.out.cn
          have HIN := Lib.hid (insertR_any au u cu q.ad q.l q.cap (sh t) V HND.out HGI.out.nil (by have := HGI.out.ul; omega) (fun x hx => by have := HGI.out.pl x hx; have := HF.out.len; omega) ⟨HF.out.row.below HTU.out.below, fun s hs => (HF.out.rd s hs).below HTU.out.below⟩ HF.out.cap HF.out.nil (by have := HF.out.len; omega) HGI.out.rep (w.heap.size + 1 + 1) (by have := HTU.out.lt; omega) HGI.out.lo)
          clear hc
          go_wp2_with (go_at_call 34; refine Stop.here ?_)
          refine Stop.on ?_
          refine HIN.out.mono ?_
          rintro e w' ⟨au', u', cu', rfl, hmap, hnds, hnil, hb, hndb⟩
          have hfx := rI_facts (sh t) [] q.l true
          have hmem : ∀ x ∈ u', (∃ y ∈ u, y.p = x.p ∧ y.s = x.s) ∨ (x.s ∈ q.l ∧ x.p.length ≤ cnt (sh t) + q.l.length) := fun x hx => by
            have h1 : en x ∈ u.map en ++ rI (sh t) [] q.l true := by rw [← hmap]; exact List.mem_map_of_mem hx
            rcases List.mem_append.1 h1 with h1 | h1
            · obtain ⟨y, hy, he⟩ := List.mem_map.1 h1
              simp only [en, Prod.mk.injEq] at he
              exact .inl ⟨y, hy, he.1, he.2⟩
            · have := hfx.2 _ h1
              exact .inr ⟨this.1, by have := this.2; simp [en] at this; omega⟩
          have HGN := Lib.hid (show GI w w' w.heap.size (w.heap.size + 1) (k + 1) t' au' u' cu' from by
            have hql := HF.out.len
            refine ⟨HTU.out.mono hb, (hb.block _ (Array.getElem?_eq_some_iff.1 HZ2.out).1).trans HZ2.out, hnds, hnil, ?_, ?_, ?_, fun x hx => ?_, fun x hx => ?_, hndb, HFT.out, by rw [HSH.out]; exact insT_dist HGI.out.ds⟩
            · rw [hmap, HSH.out]; exact rep_ins _ _ _ _ _ HGI.out.rep
            · rw [HSH.out]; have := insT_cnt (sh t) q.l true; omega
            · have h1 := congrArg List.length hmap
              simp only [List.length_map, List.length_append] at h1
              have := hfx.1
              have := HGI.out.ul
              omega
            · rcases hmem x hx with ⟨y, hy, h1, _⟩ | ⟨_, h1⟩
              · rw [← h1]; exact HGI.out.pl y hy
              · omega
            · rcases hmem x hx with ⟨y, hy, _, h1⟩ | ⟨h1, _⟩
              · rw [← h1]; exact HGI.out.rd y hy
              · exact HF.out.rd _ h1)
          clear hmap hnds hnil hb hndb hfx hmem HIN HTU HZ2 HND HSH HGI c0 hcnt
          go_wp2
          go_roundw
          case rel => exact ⟨k + 1, t', au', u', cu', by omega, by go_num, rfl, HGN⟩
          case measure => simp [intOf]; omega
    · obtain rfl : k = ps.length := by omega
      have hcn := HGI.out.cn
      have hul := HGI.out.ul
      obtain ⟨c0, c1, c2, c3, c4, oB⟩ := HGI.out.tw.tb.cells
      have hz2 := HGI.out.z2
      have hrc := row_cells hz2
      have r0 := (hrc 0).trans (show _ = some (.int .i64 0) from rfl)
      have r1 := (hrc 1).trans (show _ = some (.int .i64 0) from rfl)
      have r2 := (hrc 2).trans (show _ = some (.slice none 0 0) from rfl)
      have r3 := (hrc 3).trans (show _ = some (.slice none 0 0) from rfl)
      have r4 := (hrc 4).trans (show _ = some (.slice none 0 0) from rfl)
      have hbf : ∀ i, World.frozen? wr ⟨w.heap.size, i, none⟩ = false := fun i => by simp [World.frozen?, hz2]
      have og : Old w.heap.size wr := Old.of_cell r0
      have HE := Lib.hid (fun (V : World) (hg : wr.grownBy V (some w.heap.size)) => show GrowP w (.returned (.tuple #[trV t, .slice au u.length cu])) V from by
        have hbV := below_grown HGI.out.tw.below hg HGI.out.tw.below.size (fun k e => by cases e; exact Nat.le_refl _)
        exact ⟨t, au, u, cu, rfl, HGI.out.tw.lies.grown hg (Avoid.of_fresh HGI.out.fr (Nat.lt_succ_self _)), HGI.out.nds.off HGI.out.lo.sub hg HGI.out.rd hbV, HGI.out.rep, by omega, by omega, hbV, HGI.out.ds⟩)
      clear hz2 hrc HGI
      go_wp2
      refine bodyPost_ret (v := .tuple #[trV t, .slice au u.length cu]) ?_ rfl (HE.out _ (grown_five wr w.heap.size _ _ _ _ _))
      simp [results, Try.results11, go_sem, r0, r1, r2, r3, r4, PT.s, PT.ad, PT.ks, PT.cap]
end Go.Proofs.Ytmgiojkdcpolfaa
