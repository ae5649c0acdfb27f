/- Paths of the reference. -/
import Derived.Test.YtmgiojkdcpolfaaRk
import Derived.Test.YtmgiojkdcpolfaaRa
namespace Go.Proofs.Ytmgiojkdcpolfaa
open Go.RowKit Go.Sort PT

def pspec (q : List Nat) (t : T) (p : List PS) : List (List PS) := if t.ks.isEmpty && !q.isEmpty then [p] else lvK p t.ks
theorem lvT_spec (k : T) (q : List Nat) (i : Nat) (p : List PS) : lvT p k = pspec (q ++ [i]) k (p ++ [k.s]) := by
  cases k with
  | nd s ks =>
    rw [lvT, pspec]
    simp only [T.ks, T.s]
    cases ks <;> simp
theorem lvK_step {p : List PS} {ks : List T} {n : Nat} {k : T} (h : ks[n]? = some k) : lvK p (ks.take (n + 1)) = lvK p (ks.take n) ++ lvT p k := by
  obtain ⟨h1, e⟩ := List.getElem?_eq_some_iff.1 h
  rw [List.take_succ_eq_append_getElem h1, lvK_append, e]
  simp [lvK]
theorem cnt_mem {ks : List T} {k : T} {n : Nat} (h : ks[n]? = some k) : cnt k ≤ cntL ks := by
  induction ks generalizing n with
  | nil => simp at h
  | cons a r ih =>
    cases n with
    | zero => simp at h; subst h; simp [cntL]
    | succ n => have := ih (n := n) (by simpa using h); simp [cntL]; omega
theorem cntL_take (ks : List T) (n : Nat) : cntL (ks.take n) ≤ cntL ks := by
  conv => rhs; rw [← List.take_append_drop n ks]
  rw [cntL_append]
  omega
/-- A list of paths out of a call. -/
def PR (w0 : World) (B : Nat) (pa : Option Addr) (ls : List (List PS)) (W : World) (v : Value) : Prop := ∃ a ps c, v = .slice a ps.length c ∧ ps.map PA.l = ls ∧ Row 1 paC W a ps ∧ (a = none → c = 0) ∧
  ∀ x ∈ ps, Row 4 stC W x.ad x.l ∧ x.l.length ≤ 1000 ∧ (∀ s ∈ x.l, Rd w0 s) ∧ ∀ b off, 0 < x.l.length → x.ad = some ⟨b, off, none⟩ → B ≤ b ∨ pa = some ⟨b, off, none⟩
theorem PR.below {w0 : World} {B : Nat} {pa : Option Addr} {ls : List (List PS)} {W V : World} {v : Value} (h : PR w0 B pa ls W v) (hb : Below W.heap.size W V) : PR w0 B pa ls V v := by
  obtain ⟨a, ps, c, h1, h2, h3, h4, h5⟩ := h
  exact ⟨a, ps, c, h1, h2, h3.below hb, h4, fun x hx => ⟨(h5 x hx).1.below hb, (h5 x hx).2⟩⟩
def PathsR (w0 : World) (pa : Option Addr) (ls : List (List PS)) (w : World) (e : Ending) (w' : World) : Prop := ∃ v, e = .returned v ∧ PR w0 w.heap.size pa ls w' v ∧ Below w.heap.size w w'
theorem PathsR.low {w0 w w1 w' : World} {pa : Option Addr} {ls : List (List PS)} {e : Ending} (h : PathsR w0 pa ls w1 e w') (hb : Below w.heap.size w w1) : PathsR w0 pa ls w e w' := by
  obtain ⟨v, rfl, ⟨a, ps, c, h1, h2, h3, h4, h5⟩, h6⟩ := h
  exact ⟨v, rfl, ⟨a, ps, c, h1, h2, h3, h4, fun x hx => ⟨(h5 x hx).1, (h5 x hx).2.1, (h5 x hx).2.2.1, fun b off h0 e => ((h5 x hx).2.2.2 b off h0 e).imp (fun h => Nat.le_trans hb.size h) id⟩⟩, hb.trans (h6.mono hb.size)⟩
theorem Sf.app2 {α : Type} {n : Nat} {f : α → List Value} {W w5 : World} {v v' : Value} {ad : Option Addr} {l : List α} (h : Sf n f W v ad l) (hg : W.grownBy w5 v.ownBlock) (hat : v'.ownBlock = v.ownBlock ∨ v'.ownBlock = some W.heap.size) : Sf n f w5 v' ad l := by
  have hlt : ∀ b off, 0 < l.length → ad = some ⟨b, off, none⟩ → b < W.heap.size := fun b off h0 e => by
    obtain ⟨b', off', e', ho, _⟩ := h.1 h0
    rw [e] at e'
    cases e'
    exact ho
  refine ⟨h.1.keepB fun b off h0 e => hg.block b (hlt b off h0 e) (fun e' => h.2 b off h0 e e'.symm), fun b off h0 e => ?_⟩
  rcases hat with e' | e'
  · rw [e']; exact h.2 b off h0 e
  · rw [e']; have := hlt b off h0 e; intro e2; cases e2; omega
/-- The paths as they are gathered. -/
structure OS (w0 w W : World) (v : Value) (ps : List PA) : Prop where
  below : Below w.heap.size w W
  own : W.ownsRow w.heap.size 41 1 v ps.length (ps.flatMap paC)
  at' : ∀ x ∈ ps, Sf 4 stC W v x.ad x.l
  rd : ∀ x ∈ ps, x.l.length ≤ 1000 ∧ ∀ s ∈ x.l, Rd w0 s
  blk : ∀ x ∈ ps, ∀ b off, 0 < x.l.length → x.ad = some ⟨b, off, none⟩ → w.heap.size ≤ b
theorem OS.then {w0 w W V : World} {v : Value} {ps : List PA} (h : OS w0 w W v ps) (hb : Below W.heap.size W V) : OS w0 w V v ps :=
  ⟨h.below.trans (hb.mono h.below.size), own_of_block h.own fun g hg => hb.block g (h.own.lt g hg).2, fun x hx => (h.at' x hx).then hb, h.rd, h.blk⟩
theorem OS.pr {w0 w W : World} {v : Value} {ps : List PA} (h : OS w0 w W v ps) (pa : Option Addr) : PathsR w0 pa (ps.map PA.l) w (.returned v) W := by
  obtain ⟨a, c, rfl, _, _⟩ := own_val h.own
  exact ⟨_, rfl, ⟨a, ps, c, rfl, rfl, row_own paC_len h.own rfl, own_nilcap h.own, fun x hx => ⟨(h.at' x hx).1, (h.rd x hx).1, (h.rd x hx).2, fun b off h0 e => .inl (h.blk x hx b off h0 e)⟩⟩, h.below⟩
theorem OS.app {w0 w W Z w5 : World} {v v' : Value} {ps ps2 : List PA} (h : OS w0 w W v ps) (hb : Below W.heap.size W Z)
    (h2 : ∀ x ∈ ps2, Row 4 stC Z x.ad x.l ∧ x.l.length ≤ 1000 ∧ (∀ s ∈ x.l, Rd w0 s) ∧ ∀ b off, 0 < x.l.length → x.ad = some ⟨b, off, none⟩ → W.heap.size ≤ b)
    (hown : w5.ownsRow w.heap.size 41 1 v' (ps.length + ps2.length) (ps.flatMap paC ++ ps2.flatMap paC)) (hg : Z.grownBy w5 v.ownBlock) (hat : v'.ownBlock = v.ownBlock ∨ v'.ownBlock = some Z.heap.size) : OS w0 w w5 v' (ps ++ ps2) := by
  have hz := h.then hb
  refine ⟨below_grown hz.below hg hz.below.size (fun k e => (h.own.lt k e).1), by rw [List.length_append, List.flatMap_append]; exact hown, fun x hx => ?_, fun x hx => ?_, fun x hx => ?_⟩
  · rcases List.mem_append.1 hx with hx | hx
    · exact (hz.at' x hx).app2 hg hat
    · refine Sf.app2 ⟨(h2 x hx).1, fun b off h0 e hv => ?_⟩ hg hat
      have h3 := (h2 x hx).2.2.2 b off h0 e
      have h4 := (h.own.lt b hv).2
      omega
  · rcases List.mem_append.1 hx with hx | hx
    · exact h.rd x hx
    · exact ⟨(h2 x hx).2.1, (h2 x hx).2.2.1⟩
  · rcases List.mem_append.1 hx with hx | hx
    · exact h.blk x hx
    · exact fun b off h0 e => Nat.le_trans h.below.size ((h2 x hx).2.2.2 b off h0 e)

set_option maxRecDepth 100000 in
set_option maxHeartbeats 4000000 in
theorem pathsR_any (w0 : World) (ad : Option Addr) (u : List Nd) (cap : Nat) (hN0 : Nds w0 ad u) (hu : u.length ≤ 500) : ∀ (m : Nat) (t : T) (q : List Nat) (aq : Option Addr) (cq : Nat) (p : List PS) (pa : Option Addr) (pc : Nat) (w : World), cnt t ≤ m → m ≤ 900 → Below w0.heap.size w0 w →
    RepT (u.map en) q t → Row 1 natC w aq q → q.length ≤ 1000 → Row 4 stC w pa p → (∀ s ∈ p, Rd w0 s) → p.length ≤ q.length → (pa = none → pc = 0) →
    Calls Try.prog 36 #[.slice ad u.length cap, .slice aq q.length cq, .slice pa p.length pc] w (PathsR w0 pa (pspec q t p) w) := by
  intro m
  induction m with
  | zero =>
    intro t _ _ _ _ _ _ _ hm
    cases t with
    | nd s ks => simp [cnt] at hm
  | succ m ih =>
    intro t q aq cq p pa pc w hm hm9 hb0 hrep hrq hql hrp hrd hpq hpn
    have HIH := Lib.hid ih
    clear ih
    have HN := Lib.hid hN0
    have HB0 := Lib.hid hb0
    have HREP := Lib.hid hrep
    have HRQ := Lib.hid hrq
    have HRP := Lib.hid hrp
    have HRD := Lib.hid hrd
    have HPN := Lib.hid hpn
    have HPQ := Lib.hid hpq
    have HM := Lib.hid hm
    have hkl := kids_len hrep
    have hku := chI_len u q u.length
    have HKA := Lib.hid (fun (i : Nat) (k : T) hk => kids_at (i := i) (k := k) hrep hk)
    have HCC := Lib.hid (fun w' h1 h2 h3 => children_any ad u cap aq q cq w' h1 h2 (by omega) h3)
    obtain ⟨K, hK⟩ : ∃ K, K = chI u q u.length := ⟨_, rfl⟩
    rw [← hK] at HKA hkl hku HCC
    clear hN0 hb0 hrep hrq hrp hrd hpn hpq hm hK
    have HKL := Lib.hid hkl
    clear hkl
    go_enter Try.func36, Try.ntmps36
    go_wp2_with (go_at_call 62; refine Stop.here ?_)
    refine Stop.on ?_
    refine (HCC.out w (HN.out.below HB0.out) HRQ.out hql).mono ?_
    intro e w1 h
    obtain ⟨a6, k6, rfl, hb, hr6⟩ := h.view natC_len
    have HB1 := Lib.hid hb
    have HR6 := Lib.hid hr6
    clear h hb hr6 HCC
    by_cases hk0 : K.length = 0
    · have hk : ((K.length : Int) == 0) = true := by simp [hk0]
      have hks : t.ks = [] := List.length_eq_zero_iff.1 (by rw [← HKL.out]; exact hk0)
      have HKS := Lib.hid hks
      have HK0 := Lib.hid hk0
      clear hk0 hks
      by_cases hq0 : q.length = 0
      · have hq : decide (0 < q.length) = false := decide_eq_false (by omega)
        have HE := Lib.hid (show pspec q t p = [] by rw [pspec, HKS.out, List.length_eq_zero_iff.1 hq0]; simp [lvK])
        have HO := Lib.hid (show OS w0 w1 w1 (.slice none 0 0) [] from ⟨Below.refl _ _, World.ownsRow_nil _ _ _ _, fun x hx => (by cases hx), fun x hx => (by cases hx), fun x hx => (by cases hx)⟩)
        have hk1 : K = [] := List.length_eq_zero_iff.1 HK0.out
        subst hk1
        go_wp2
        go_loopw [8, 9] (fun ov nv wr => ov = .slice none 0 0 ∧ nv = .int .i64 0 ∧ w1 = wr) (fun _ nv _ => 1 - (intOf nv).toNat)
        case atStart => exact ⟨rfl, rfl, rfl⟩
        case round =>
          obtain ⟨rfl, rfl, rfl⟩ := hrel
          go_wp2
          go_ret
          rw [HE.out]
          exact (HO.out.pr pa).low HB1.out
      · have hq : decide (0 < q.length) = true := decide_eq_true (by omega)
        have HE := Lib.hid (show pspec q t p = [p] by
          rw [pspec, HKS.out]
          cases q with
          | nil => exact absurd rfl hq0
          | cons _ _ => rfl)
        go_wp2
        go_ret
        rw [HE.out]
        have h1 := HB1.out.size
        exact ⟨_, rfl, ⟨some ⟨w1.heap.size, 0, none⟩, [⟨pa, p, pc⟩], 1, rfl, rfl, Row.of_block paC_len (heap_alloc_at' _ _ _ rfl) (by simp), (fun h => by cases h), fun x hx => by
          rw [List.mem_singleton.1 hx]
          exact ⟨(HRP.out.below HB1.out).below ((Below.refl _ _).alloc (Nat.le_refl _) _), by have := HPQ.out; simp only; omega, HRD.out, fun b off _ e => .inr e⟩⟩, HB1.out.alloc h1 _⟩
    · have hk : ((K.length : Int) == 0) = false := by simp; exact fun h => hk0 (by rw [h]; rfl)
      have HE := Lib.hid (show pspec q t p = lvK p t.ks by
        rw [pspec]
        cases h : t.ks with
        | nil => exact absurd (by rw [HKL.out, h]; rfl) hk0
        | cons _ _ => rfl)
      have HO0 := Lib.hid (show ∃ ps, OS w0 w1 w1 (.slice none 0 0) ps ∧ ps.map PA.l = lvK p (t.ks.take 0) from ⟨[], ⟨Below.refl _ _, World.ownsRow_nil _ _ _ _, fun x hx => (by cases hx), fun x hx => (by cases hx), fun x hx => (by cases hx)⟩, by simp [lvK]⟩)
      go_wp2
      go_loopw [8, 9] (fun ov nv wr => ∃ n : Nat, n ≤ K.length ∧ nv = .int .i64 n ∧ Hid (Below w1.heap.size w1 wr ∧ ∃ ps, OS w0 w1 wr ov ps ∧ ps.map PA.l = lvK p (t.ks.take n))) (fun _ nv _ => K.length - (intOf nv).toNat)
      case atStart => exact ⟨0, by omega, rfl, Lib.hid ⟨Below.refl _ _, HO0.out⟩⟩
      case round =>
        clear HO0
        obtain ⟨n, hn, rfl, ho⟩ := hrel
        have HO := Lib.hid ho.out
        clear ho
        by_cases hnt : n < K.length
        · have nb0 : (n : Int) < K.length := by omega
          go_wp2
          go_loopw [8, 10] (fun ov iv wr => ∃ i : Nat, i ≤ K.length ∧ iv = .int .i64 i ∧ Hid (Below w1.heap.size w1 wr ∧ ∃ ps, OS w0 w1 wr ov ps ∧ ps.map PA.l = lvK p (t.ks.take (if n < i then n + 1 else n)))) (fun _ iv _ => K.length - (intOf iv).toNat)
          case atStart => exact ⟨0, by omega, rfl, Lib.hid (by rw [if_neg (Nat.not_lt_zero _)]; exact HO.out)⟩
          case round =>
            clear HO
            obtain ⟨i, hi, rfl, ho⟩ := hrel
            have HO := Lib.hid ho.out
            clear ho
            by_cases hit : i < K.length
            · have ib : (i : Int) < K.length := by omega
              obtain ⟨kt, hkt⟩ := get_some (show i < t.ks.length by rw [← HKL.out]; exact hit)
              obtain ⟨nn, x, hnn, hx, hxp, hxs⟩ := HKA.out i kt hkt
              have hnl := (List.getElem?_eq_some_iff.1 hx).1
              have nb : (nn : Int) < u.length := by omega
              have h0n : (0 : Int) ≤ (nn : Int) := by omega
              have HBW := Lib.hid (HB1.out.trans (HO.out.1.mono HB1.out.size))
              obtain ⟨b₆, o₆, rfl, hob6, hc6⟩ := (HR6.out.below HO.out.1).get hnn
              have HNW := Lib.hid (HN.out.below (HB0.out.trans (HBW.out.mono HB0.out.size)))
              obtain ⟨b₀, o₀, rfl, hob0, hc0⟩ := HNW.out.row.get hx
              have e0 := hc6 0 (by omega)
              have g0 := hc0 0 (by omega)
              have g1 := hc0 1 (by omega)
              have g2 := hc0 2 (by omega)
              have g3 := hc0 3 (by omega)
              have g4 := hc0 4 (by omega)
              simp at e0 g0 g1 g2 g3 g4
              have hmx := List.mem_of_getElem? hx
              have hpl : x.p.length = q.length + 1 := by rw [hxp]; simp
              have hgl : x.p[q.length]? = some i := by rw [hxp]; simp
              obtain ⟨b₉, o₉, e9, hob9, hc9⟩ := (HNW.out.at' x hmx).get hgl
              have a0 := hc9 0 (by omega)
              simp at a0
              have HE9 := Lib.hid e9
              have HX := Lib.hid hx
              have HKT := Lib.hid hkt
              have HXP := Lib.hid hxp
              have HXS := Lib.hid hxs
              have hw1 : IntKind.i64.wrap ((x.p.length : Int) - 1) = (q.length : Int) := by rw [IntKind.wrap_i64]; omega
              have hw2 : (q.length : Int) < (x.p.length : Int) := by omega
              have hw3 : (0 : Int) ≤ (q.length : Int) := by omega
              have HPL := Lib.hid hpl
              clear hc6 hc0 hx hkt hxp hxs hnn hgl hc9 hpl
              rw [e9] at g0
              clear e9
              by_cases hin : i = n
              · subst hin
                go_wp2
                obtain ⟨i1, z1, HI1⟩ := step_info
                obtain ⟨i2, z2, HI2⟩ := path_info
                obtain ⟨hbw, ps, hos, hps⟩ := HO.out
                rw [if_neg (Nat.lt_irrefl _)] at hps
                have HOS := Lib.hid hos
                have HPS := Lib.hid hps
                have HBW1 := Lib.hid hbw
                obtain ⟨Z, hZ⟩ : ∃ Z, Z = wr.alloc (.cells #[.slice (some ⟨b₉, o₉, none⟩) x.p.length x.cap, .int .i64 x.s.g, .int .i64 x.s.c, .slice x.s.ga x.s.gs.length x.s.gc, .slice x.s.ta x.s.ts.length x.s.tc] 95) := ⟨_, rfl⟩
                have HZB := Lib.hid (show Below wr.heap.size wr Z by rw [hZ]; exact (Below.refl _ _).alloc (Nat.le_refl _) _)
                have hbx : Z.heap[wr.heap.size]? = some (.cells #[.slice (some ⟨b₉, o₉, none⟩) x.p.length x.cap, .int .i64 x.s.g, .int .i64 x.s.c, .slice x.s.ga x.s.gs.length x.s.gc, .slice x.s.ta x.s.ts.length x.s.tc] 95 (0, 0)) := by rw [hZ]; exact heap_alloc_at' _ _ _ rfl
                have hzs : wr.heap.size < Z.heap.size := (Array.getElem?_eq_some_iff.1 hbx).1
                rw [← hZ]
                clear hZ hos hps hbw HO
                have HZS := Lib.hid hzs
                have HBX := Lib.hid (fun (W : World) (h : Below Z.heap.size Z W) => row_cells ((h.block _ hzs).trans hbx))
                have HZ0 := Lib.hid (fun (W : World) (h : Below Z.heap.size Z W) => show Below w0.heap.size w0 W from
                  HB0.out.trans ((HBW.out.trans ((HZB.out.trans (h.mono HZB.out.size)).mono HBW.out.size)).mono HB0.out.size))
                have HZ1 := Lib.hid (fun (W : World) (h : Below Z.heap.size Z W) => show Below w.heap.size w W from
                  HBW.out.trans ((HZB.out.trans (h.mono HZB.out.size)).mono HBW.out.size))
                have hck : cnt kt ≤ m := by
                  have h1 := cnt_mem HKT.out
                  have h2 := cnt_ks t
                  have h3 := HM.out
                  omega
                have hspec : pspec x.p kt (p ++ [x.s]) = lvT p kt := by rw [HXP.out, HXS.out, ← lvT_spec]
                have HPAT := Lib.hid (fun (W : World) (h : Below Z.heap.size Z W) => show Row 1 natC W (some ⟨b₉, o₉, none⟩) x.p by
                  rw [← HE9.out]
                  exact (HN.out.below (HZ0.out W h)).at' x (List.mem_of_getElem? HX.out))
                have HREC := Lib.hid (fun (W : World) (h : Below Z.heap.size Z W) (a : Option Addr) (c : Nat) (hr : Row 4 stC W a (p ++ [x.s])) (hn : a = none → c = 0) =>
                  HIH.out kt x.p (some ⟨b₉, o₉, none⟩) x.cap (p ++ [x.s]) a c W hck (by omega) (HZ0.out W h) (by rw [HXP.out]; exact HREP.out.kid HKT.out) (HPAT.out W h) (by rw [HPL.out]; have := (HN.out.len x (List.mem_of_getElem? HX.out)).1; rw [HPL.out] at this; omega) hr
                    (fun s hs => by
                      rcases List.mem_append.1 hs with hs | hs
                      · exact HRD.out s hs
                      · rw [List.mem_singleton.1 hs]; exact HN.out.rd x (List.mem_of_getElem? HX.out)) (by rw [HPL.out]; have := HPQ.out; simp; omega) hn)
                rw [hspec] at HREC
                clear hspec hck hbx hzs a0 g0 g1 g2 g3 g4 e0 hw1 hw2 hw3 hob0 hob6 hob9
                have hGm : ∀ (W : World) (q : Regrown), Below Z.heap.size Z W → Below Z.heap.size Z (gw W q) := fun W q h => below_gw h h.size q
                have HGM := Lib.hid hGm
                have hmon0 : allMono [fun _ v => v = u8, fun _ v => v = .slice (some ⟨b₀, o₀, none⟩) u.length cap, fun _ v => v = .pointer (some ⟨wr.heap.size, 0, none⟩), fun _ v => v = .slice (some ⟨b₉, o₉, none⟩) x.p.length x.cap,
                  fun W v => ∃ g, v = .slice (some ⟨g, 0, none⟩) 0 0 ∧ W.ownsRow Z.heap.size 30 4 v 0 [], fun _ v => v = .slice pa p.length pc, fun W v => W.ownsRow Z.heap.size 30 4 v p.length (p.flatMap stC), fun _ v => v = .pointer (some ⟨wr.heap.size, 1, none⟩), fun _ v => v = stv x.s,
                  fun W v => ∃ g, v = .slice (some ⟨g, 0, none⟩) 1 1 ∧ W.heap[g]? = some (.cells (stC x.s).toArray 30 (0, 0)), fun W v => W.ownsRow Z.heap.size 30 4 v (p ++ [x.s]).length ((p ++ [x.s]).flatMap stC), fun W v => PR w0 Z.heap.size none (lvT p kt) W v] := ⟨fun _ _ _ h => h, fun _ _ _ h => h, fun _ _ _ h => h, fun _ _ _ h => h, (by rintro v w' q ⟨g, e, h⟩; exact ⟨g, e, own_gw h q⟩), fun _ _ _ h => h, fun _ _ q h => own_gw h q, fun _ _ _ h => h, fun _ _ _ h => h, (by rintro v w' q ⟨g, e, h⟩; exact ⟨g, e, (gw_heap _ _ _ (Array.getElem?_eq_some_iff.1 h).1).trans h⟩), fun _ _ q h => own_gw h q, fun _ _ q h => h.below (gw_below _ _), trivial⟩
                have hmono := fun (a : Act) (t : Tmp) (w : World) (v : Value) (q : Regrown) => FofL_mono (a := a) [54, 55, 56, 57, 58, 59, 60, 61, 62, 63, 64, 65] _ (allMono_mem hmon0) t v w q
                have HMONO := Lib.hid hmono
                clear hmon0 hmono
                refine wp_region_relPX 12 [54, 55, 56, 57, 58, 59, 60, 61, 62, 63, 64, 65] [fun _ v => v = u8, fun _ v => v = .slice (some ⟨b₀, o₀, none⟩) u.length cap, fun _ v => v = .pointer (some ⟨wr.heap.size, 0, none⟩), fun _ v => v = .slice (some ⟨b₉, o₉, none⟩) x.p.length x.cap,
                  fun W v => ∃ g, v = .slice (some ⟨g, 0, none⟩) 0 0 ∧ W.ownsRow Z.heap.size 30 4 v 0 [], fun _ v => v = .slice pa p.length pc, fun W v => W.ownsRow Z.heap.size 30 4 v p.length (p.flatMap stC), fun _ v => v = .pointer (some ⟨wr.heap.size, 1, none⟩), fun _ v => v = stv x.s,
                  fun W v => ∃ g, v = .slice (some ⟨g, 0, none⟩) 1 1 ∧ W.heap[g]? = some (.cells (stC x.s).toArray 30 (0, 0)), fun W v => W.ownsRow Z.heap.size 30 4 v (p ++ [x.s]).length ((p ++ [x.s]).flatMap stC), fun W v => PR w0 Z.heap.size none (lvT p kt) W v]
                  (fun W => Below Z.heap.size Z W) 64 [58, 60, 63] [65] (by kernel_rfl) (by kernel_rfl) (by kernel_rfl) (by kernel_rfl) (by kernel_rfl) rfl (by simp only [List.drop_succ_cons, List.drop_zero]; rfl) (by decide) rfl (by kernel_rfl) ((Below.refl _ _).drew) ?_ ?_
                · refine ⟨?_, ?_, ?_, ?_, ?_, ?_, ?_, ?_, ?_, ?_, ?_, ?_, trivial⟩
                  · refine relAtX_gw HGM.out (HMONO.out _) [8] rfl rfl rfl fun b W hG hs => ?_
                    simp [allSeen, FofL, slot] at hs
                    simp [execOp, relUpon, FofL, go_sem, gw_ex_self, hs]
                  · refine relAtX_gw HGM.out (HMONO.out _) [0] rfl rfl rfl fun b W hG hs => ?_
                    simp [allSeen, FofL, slot] at hs
                    simp [execOp, relUpon, FofL, go_sem, gw_ex_self, hs]
                  · refine relAtX_gw HGM.out (HMONO.out _) [11] rfl rfl rfl fun b W hG hs => ?_
                    simp [allSeen, FofL, slot] at hs
                    simp [execOp, relUpon, FofL, go_sem, gw_ex_self, hs]
                  · refine relAtX_gw HGM.out (HMONO.out _) [56] rfl rfl rfl fun b W hG hs => ?_
                    simp [allSeen, FofL, slot] at hs
                    have c0 := (HBX.out W hG 0).trans (show _ = some (.slice (some ⟨b₉, o₉, none⟩) x.p.length x.cap) from rfl)
                    simp [execOp, relUpon, FofL, go_sem, gw_ex_self, hs, c0]
                  · refine relAtX_gw HGM.out (HMONO.out _) [] rfl rfl rfl fun b W hG hs => ?_
                    simp [execOp, relUpon, FofL, go_sem, gw_ex_alloc]
                    exact World.ownsRow_made (base := Z.heap.size) (size := 4) (e := 30) W #[] 0 hG.size (Nat.zero_le _) rfl
                  · refine relAtX_gw HGM.out (HMONO.out _) [2] rfl rfl rfl fun b W hG hs => ?_
                    simp [allSeen, FofL, slot] at hs
                    simp [execOp, relUpon, FofL, go_sem, gw_ex_self, hs]
                  · refine relAtX_gw HGM.out (HMONO.out _) [58, 59] rfl rfl rfl fun b W hG hs => ?_
                    simp only [allSeen, FofL, slot] at hs
                    simp at hs
                    obtain ⟨⟨⟨g, h58⟩, hog⟩, h59⟩ := hs
                    rw [h58] at hog
                    obtain ⟨v', w', hr, hq, hv⟩ := append_empty W 41 30 i1 z1 64 rfl HI1.out.1 HI1.out.2.1 HI1.out.2.2.1 HI1.out.2.2.2.1 HI1.out.2.2.2.2 stC_len Z.heap.size g hG.size hog pa p pc (HRP.out.below (HZ1.out W hG)) (by have := HPQ.out; unfold maxLen; omega) (by have := HPQ.out; omega)
                    unfold execOp
                    simp only [resolve, invoke, builtin, Sem.run_bind, Sem.run_pure, Result.andThen_ok, List.map_toArray, List.map_cons, List.map_nil, Act.eval, Array.getD_eq_getD_getElem?, h58, h59, hr]
                    refine ⟨?_, hq⟩
                    simp only [FofL, Nat.reduceEqDiff, if_true, if_false]
                    exact hv
                  · refine relAtX_gw HGM.out (HMONO.out _) [11] rfl rfl rfl fun b W hG hs => ?_
                    simp [allSeen, FofL, slot] at hs
                    simp [execOp, relUpon, FofL, go_sem, gw_ex_self, hs]
                  · refine relAtX_gw HGM.out (HMONO.out _) [61] rfl rfl rfl fun b W hG hs => ?_
                    simp [allSeen, FofL, slot] at hs
                    have c1 := (HBX.out W hG 1).trans (show _ = some (.int .i64 x.s.g) from rfl)
                    have c2 := (HBX.out W hG 2).trans (show _ = some (.int .i64 x.s.c) from rfl)
                    have c3 := (HBX.out W hG 3).trans (show _ = some (.slice x.s.ga x.s.gs.length x.s.gc) from rfl)
                    have c4 := (HBX.out W hG 4).trans (show _ = some (.slice x.s.ta x.s.ts.length x.s.tc) from rfl)
                    simp [execOp, relUpon, FofL, go_sem, gw_ex_self, hs, c1, c2, c3, c4]
                  · refine relAtX_gw HGM.out (HMONO.out _) [62] rfl rfl rfl fun b W hG hs => ?_
                    simp [allSeen, FofL, slot] at hs
                    simp [execOp, relUpon, FofL, go_sem, gw_ex_alloc, hs]
                    have hnb := heap_alloc_at' W (.cells (stC x.s).toArray 30) W.heap.size rfl
                    exact (Array.getElem?_eq_some_iff.1 hnb).2
                  · refine relAtX_own [60, 63] rfl rfl rfl fun b W hG hs => ?_
                    simp only [allSeen, FofL, slot] at hs
                    simp at hs
                    obtain ⟨h60, g, h63, hb63⟩ := hs
                    obtain ⟨v', w', hr, hown, hgrow, hat⟩ := run_append_row (P := Try.prog) W Z.heap.size 41 41 30 i1 z1 4 64 rfl HI1.out.1 HI1.out.2.1 HI1.out.2.2.1 HI1.out.2.2.2.1 HI1.out.2.2.2.2 (by omega) stC_len _ p.length (p.flatMap stC) h60 (some ⟨g, 0, none⟩) 1 [x.s] (fun h => by cases h) (Row.of_block stC_len hb63 (by simp)) stC_one (by have := HPQ.out; simp only [maxLen, List.length_singleton]; omega) (by have := HPQ.out; simp only [List.length_singleton]; omega) hG.size
                    simp only [List.length_singleton] at hr
                    unfold execOp
                    simp only [resolve, invoke, builtin, Sem.run_bind, Sem.run_pure, Result.andThen_ok, List.map_toArray, List.map_cons, List.map_nil, Act.eval, Array.getD_eq_getD_getElem?, h63, hr]
                    refine ⟨below_grown hG hgrow hG.size (fun k hk => (h60.lt k hk).1), ?_, fun t v h1 h2 h3 h4 => ?_⟩
                    · simp only [FofL, Nat.reduceEqDiff, if_true, if_false]
                      rw [List.length_append, List.flatMap_append]
                      exact hown
                    · have hkp : allKeep [58, 60, 63, 64, 65] W w' [54, 55, 56, 57, 58, 59, 60, 61, 62, 63, 64, 65] [fun _ v => v = u8, fun _ v => v = .slice (some ⟨b₀, o₀, none⟩) u.length cap, fun _ v => v = .pointer (some ⟨wr.heap.size, 0, none⟩), fun _ v => v = .slice (some ⟨b₉, o₉, none⟩) x.p.length x.cap,
                  fun W v => ∃ g, v = .slice (some ⟨g, 0, none⟩) 0 0 ∧ W.ownsRow Z.heap.size 30 4 v 0 [], fun _ v => v = .slice pa p.length pc, fun W v => W.ownsRow Z.heap.size 30 4 v p.length (p.flatMap stC), fun _ v => v = .pointer (some ⟨wr.heap.size, 1, none⟩), fun _ v => v = stv x.s,
                  fun W v => ∃ g, v = .slice (some ⟨g, 0, none⟩) 1 1 ∧ W.heap[g]? = some (.cells (stC x.s).toArray 30 (0, 0)), fun W v => W.ownsRow Z.heap.size 30 4 v (p ++ [x.s]).length ((p ++ [x.s]).flatMap stC), fun W v => PR w0 Z.heap.size none (lvT p kt) W v] := ⟨.inr fun _ h => h, .inr fun _ h => h, .inr fun _ h => h, .inr fun _ h => h, .inl (by decide), .inr fun _ h => h, .inl (by decide), .inr fun _ h => h, .inr fun _ h => h, .inl (by decide), .inl (by decide), .inl (by decide), trivial⟩
                      refine FofL_keep _ _ hkp t v ?_ h4
                      simp at h1 h2 h3 ⊢
                      exact ⟨h2.1, h2.2.1, h2.2.2, h1, h3⟩
                  · refine relAtX_gw HGM.out (HMONO.out _) [55, 57, 64] rfl rfl rfl fun b W hG hs => ?_
                    have h64 : W.ownsRow Z.heap.size 30 4 (slot b 64) (p ++ [x.s]).length ((p ++ [x.s]).flatMap stC) := hs.2.2.1
                    simp only [allSeen, FofL, slot] at hs
                    simp at hs
                    obtain ⟨h55, h57, _⟩ := hs
                    obtain ⟨a4, c4, e4, _, _⟩ := own_val h64
                    rw [e4] at h64
                    simp only [slot, Array.getD_eq_getD_getElem?] at e4
                    have hrc := HREC.out W hG a4 c4 (row_own stC_len h64 rfl) (own_nilcap h64)
                    simp only [execOp, relUpon, resolve, invoke, Sem.run_bind, List.map_toArray, List.map_cons, List.map_nil, Act.eval, Array.getD_eq_getD_getElem?, h55, h57, e4]
                    simp [go_sem]
                    simp only [List.length_append, List.length_singleton] at hrc
                    refine hrc.mono ?_
                    rintro e w' ⟨v, rfl, ⟨a, ps', c, h1, h2, h3, h4, h5⟩, hb⟩
                    refine ⟨v, rfl, ?_, gw_of_below hb⟩
                    simp only [FofL, Nat.reduceEqDiff, if_true, if_false]
                    refine ⟨a, ps', c, h1, h2, h3, h4, fun y hy => ⟨(h5 y hy).1, (h5 y hy).2.1, (h5 y hy).2.2.1, fun b' off h0 e => .inl ?_⟩⟩
                    rcases (h5 y hy).2.2.2 b' off h0 e with h | h
                    · exact Nat.le_trans hG.size h
                    · subst h; exact (h64.lt b' rfl).1
                · intro vs' W hlen hGW hv
                  match vs', hlen with
                  | [v54, v55, v56, v57, v58, v59, v60, v61, v62, v63, v64, v65], hl0 =>
                    clear hl0 hlen
                    obtain ⟨h54, h55, h56, h57, _, h59, _, h61, h62, _, h64, h65, _⟩ := hv
                    have h54 : v54 = u8 := h54
                    have h65 : PR w0 Z.heap.size none (lvT p kt) W v65 := h65
                    obtain ⟨a5, ps5, c5, rfl, hm5, hr5, hn5, h5⟩ := h65
                    subst h54
                    have hbW : Below wr.heap.size wr W := HZB.out.trans (hGW.mono HZB.out.size)
                    have hosW := HOS.out.then hbW
                    have hl1 : ps.length ≤ 900 := by
                      have h1 := congrArg List.length HPS.out
                      simp only [List.length_map] at h1
                      have h2 := lvK_len p (t.ks.take i)
                      have h3 := cntL_take t.ks i
                      have h4 := cnt_ks t
                      have h6 := HM.out
                      omega
                    have hl2 : ps5.length ≤ 900 := by
                      have h1 := congrArg List.length hm5
                      simp only [List.length_map] at h1
                      have h2 := lvT_len p kt
                      have h3 := cnt_mem HKT.out
                      have h4 := cnt_ks t
                      have h6 := HM.out
                      omega
                    simp only [putL, Act.put, List.setIfInBounds_toArray, List.set_cons_zero, List.set_cons_succ]
                    refine wpList_append_row rfl _ _ 22 rfl w1.heap.size 41 i2 z2 1 24 rfl HI2.out.1 HI2.out.2.1 HI2.out.2.2.1 HI2.out.2.2.2.1 HI2.out.2.2.2.2 (by omega) paC_len paC_one v54 ps.length (ps.flatMap paC) rfl hosW.own a5 c5 ps5 hn5 rfl hr5 (by simp only [maxLen]; omega) (by omega) hosW.below.size ?_
                    intro v' w5 hown hgrow hat
                    have hosn := HOS.out.app hbW (fun y hy => ⟨(h5 y hy).1, (h5 y hy).2.1, (h5 y hy).2.2.1, fun b' off h0 e => by
                      rcases (h5 y hy).2.2.2 b' off h0 e with h | h
                      · exact Nat.le_trans HZB.out.size h
                      · cases h⟩) hown hgrow hat
                    have HON := Lib.hid (show Below w1.heap.size w1 w5 ∧ ∃ ps, OS w0 w1 w5 v' ps ∧ ps.map PA.l = lvK p (t.ks.take (i + 1)) from ⟨hosn.below, _, hosn, by rw [List.map_append, HPS.out, hm5, ← lvK_step HKT.out]⟩)
                    clear hosn hown hgrow hat hosW hbW hl1 hl2 h5 hr5 hm5 hn5 h64 HOS HPS HREC HPAT HZ0 HZ1 HBX HMONO
                    go_wp2
                    go_roundw
                    case rel => exact ⟨i + 1, by omega, by go_num, Lib.hid (by rw [if_pos (Nat.lt_succ_self i)]; exact HON.out)⟩
                    case measure => simp [intOf]; omega
              · have hz : ((i : Int) == (n : Int)) = false := by simp; omega
                go_wp2
                go_roundw
                case rel => exact ⟨i + 1, by omega, by go_num, Lib.hid ⟨HO.out.1.alloc HO.out.1.size _, by
                  obtain ⟨ps, h1, h2⟩ := HO.out.2
                  refine ⟨ps, h1.then ((Below.refl _ _).alloc (Nat.le_refl _) _), ?_⟩
                  rw [h2]
                  congr 2
                  by_cases h : n < i
                  · rw [if_pos h, if_pos (by omega)]
                  · rw [if_neg h, if_neg (by omega)]⟩⟩
                case measure => simp [intOf]; omega
            · obtain rfl : i = K.length := by omega
              have HO2 := Lib.hid (show Below w1.heap.size w1 wr ∧ ∃ ps, OS w0 w1 wr _ ps ∧ ps.map PA.l = lvK p (t.ks.take (n + 1)) by
                have := HO.out
                rwa [if_pos hnt] at this)
              clear HO
              go_wp2
              go_roundw
              case rel => exact ⟨n + 1, by omega, by go_num, HO2⟩
              case measure => simp [intOf]; omega
        · obtain rfl : n = K.length := by omega
          go_wp2
          go_ret
          rw [HE.out]
          obtain ⟨ps, h1, h2⟩ := HO.out.2
          rw [HKL.out, List.take_length] at h2
          rw [← h2]
          exact (h1.pr pa).low HB1.out
end Go.Proofs.Ytmgiojkdcpolfaa
