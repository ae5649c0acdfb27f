/- Insert of the reference: the walk. -/
import Derived.Test.YtmgiojkdcpolfaaRj
import Derived.Test.YtmgiojkdcpolfaaIm
namespace Go.Proofs.Ytmgiojkdcpolfaa
open Go.RowKit Go.Sort PT

theorem own_alloc' {w : World} {B : Nat} {e : TypeId} {size n : Nat} {v : Value} {xs : List Value} (h : w.ownsRow B e size v n xs) (o : Obj) : (w.alloc o).ownsRow B e size v n xs := own_of_block h fun g hg => Below.heap_alloc _ _ _ (h.lt g hg).2
def lenOf : Value → Nat | .slice _ n _ => n | _ => 0
/-- Where the search stands. -/
structure RSt (w wr : World) (u : List Nd) (new : List En) (q : List Nat) (aq : Option Addr) (cq : Nat) (l : List PS) (la : Option Addr) (lc : Nat) : Prop where
  below : Below w.heap.size w wr
  tr : ∃ t, RepT (u.map en) q t ∧ rI t q l q.isEmpty = new
  row : Row 1 natC wr aq q
  nil : aq = none → cq = 0
  qlen : q.length + l.length ≤ 900
  sts : Row 4 stC wr la l
  rd : ∀ s ∈ l, Rd w s
  cap : l.length ≤ lc
  lnil : la = none → lc = 0
  llen : l.length ≤ 100
theorem RSt.then {w wr W : World} {u : List Nd} {new : List En} {q : List Nat} {aq : Option Addr} {cq : Nat} {l : List PS} {la : Option Addr} {lc : Nat} (h : RSt w wr u new q aq cq l la lc) (hb : Below wr.heap.size wr W) : RSt w W u new q aq cq l la lc :=
  ⟨h.below.trans (hb.mono h.below.size), h.tr, h.row.below hb, h.nil, h.qlen, h.sts.below hb, h.rd, h.cap, h.lnil, h.llen⟩
theorem RSt.ls {w wr : World} {u : List Nd} {new : List En} {q : List Nat} {aq : Option Addr} {cq : Nat} {l : List PS} {la : Option Addr} {lc : Nat} (h : RSt w wr u new q aq cq l la lc) : Sts wr la l := ⟨h.sts, fun s hs => (h.rd s hs).below h.below⟩
/-- A child takes the rest. -/
structure HitP (W : World) (u : List Nd) (q : List Nat) (t : T) (l : List PS) (n : Nat) (r : List PS) (a : Option Addr) (c : Nat) : Prop where
  at' : ∃ i k x, t.ks[i]? = some k ∧ u[n]? = some x ∧ x.p = q ++ [i] ∧ (∀ (j : Nat) (y : T), j < i → t.ks[j]? = some y → wo l y.s = none) ∧ wo l k.s = some r
  row : Row 4 stC W a r
  cap : r.length ≤ c
  nil : a = none → c = 0
/-- A row that does not lie in the own block. -/
def Sf {α : Type} (n : Nat) (f : α → List Value) (W : World) (v : Value) (ad : Option Addr) (l : List α) : Prop := Row n f W ad l ∧ ∀ b off, 0 < l.length → ad = some ⟨b, off, none⟩ → v.ownBlock ≠ some b
theorem Sf.then {α : Type} {n : Nat} {f : α → List Value} {W V : World} {v : Value} {ad : Option Addr} {l : List α} (h : Sf n f W v ad l) (hb : Below W.heap.size W V) : Sf n f V v ad l := ⟨h.1.below hb, h.2⟩
theorem Sf.app {α : Type} {n : Nat} {f : α → List Value} {W w5 : World} {v v' : Value} {ad : Option Addr} {l : List α} {o : Obj} (h : Sf n f W v ad l) (hg : (W.alloc o).grownBy w5 v.ownBlock) (hat : v'.ownBlock = v.ownBlock ∨ v'.ownBlock = some (W.alloc o).heap.size) : Sf n f w5 v' ad l := by
  have hlt : ∀ b off, 0 < l.length → ad = some ⟨b, off, none⟩ → b < W.heap.size := fun b off h0 e => by
    obtain ⟨b', off', e', ho, _⟩ := h.1 h0
    rw [e] at e'
    cases e'
    exact ho
  refine ⟨h.1.keepB fun b off h0 e => ?_, fun b off h0 e => ?_⟩
  · rw [hg.block b (by have := hlt b off h0 e; simp; omega) (fun e' => h.2 b off h0 e e'.symm)]
    exact Below.heap_alloc _ _ _ (hlt b off h0 e)
  · rcases hat with e' | e'
    · rw [e']; exact h.2 b off h0 e
    · rw [e']; have := hlt b off h0 e; intro e2; cases e2; simp at this; omega
/-- The list as it is filled. -/
structure L3 (w : World) (lo : Nat) (W : World) (u : List Nd) (new : List En) (l : List PS) (la : Option Addr) (i : Nat) (q : List Nat) (aq : Option Addr) (cq n : Nat) (au : Option Addr) (cu : Nat) (u' : List Nd) : Prop where
  ns : NS w lo W (.slice au u'.length cu) u'
  eq : u'.map en ++ newN q n (l.drop i) = u.map en ++ new
  row : Row 1 natC W aq q
  nil : aq = none → cq = 0
  ls : Sf 4 stC W (.slice au u'.length cu) la l
  qlen : q.length + (l.length - i) ≤ 900
  len : u'.length = u.length + i

set_option maxRecDepth 100000 in
set_option maxHeartbeats 4000000 in
theorem insertR_any (ad : Option Addr) (u : List Nd) (cap : Nat) (la : Option Addr) (l : List PS) (lc : Nat) (t0 : T) (w : World) (hN : Nds w ad u) (hnil : ad = none → cap = 0) (hu : u.length ≤ 500) (hd : ∀ x ∈ u, x.p.length + l.length ≤ 900)
    (hS : Sts w la l) (hlc : l.length ≤ lc) (hln : la = none → lc = 0) (hl : l.length ≤ 100) (hR : RepT (u.map en) [] t0) (lo : Nat) (hlo : lo ≤ w.heap.size) (hB : NdB lo ad u) :
    Calls Try.prog 34 #[.slice ad u.length cap, .slice la l.length lc] w (InsR lo u (rI t0 [] l true) w) := by
  obtain ⟨new, hnew⟩ : ∃ new, new = rI t0 [] l true := ⟨_, rfl⟩
  rw [← hnew]
  have HR0 := Lib.hid (show RSt w w u new [] none 0 l la lc ∧ l.length ≤ l.length from ⟨⟨Below.refl _ _, ⟨t0, hR, hnew.symm⟩, Row.nil _, fun _ => rfl, by simp; omega, hS.row, hS.rd, hlc, hln, hl⟩, Nat.le_refl _⟩)
  have HN := Lib.hid hN
  have HNIL := Lib.hid hnil
  have HD := Lib.hid hd
  have HBD := Lib.hid hB
  have HLO := Lib.hid hlo
  clear hN hnil hd hS hlc hln hl hR hnew hB hlo
  obtain ⟨m0, hm0⟩ : ∃ m, m = l.length := ⟨_, rfl⟩
  rw [← hm0] at HD
  have HR0 := Lib.hid (show RSt w w u new [] none 0 l la lc ∧ l.length ≤ m0 from ⟨HR0.out.1, by omega⟩)
  clear hm0
  obtain ⟨j0, z0, HJ⟩ := int_info
  obtain ⟨n0, y0, HND⟩ := node_info
  go_enter Try.func34, Try.ntmps34
  go_wp2
  go_loopw [1, 5] (fun lv av wr => ∃ (q : List Nat) (aq : Option Addr) (cq : Nat) (l : List PS) (la : Option Addr) (lc : Nat), lv = .slice la l.length lc ∧ av = .slice aq q.length cq ∧ Hid (RSt w wr u new q aq cq l la lc ∧ l.length ≤ m0)) (fun _ av _ => 1000 - lenOf av)
  case atStart => exact ⟨[], none, 0, l, la, lc, rfl, rfl, HR0⟩
  case round =>
    clear HR0
    obtain ⟨q, aq, cq, l, la, lc, rfl, rfl, hrs⟩ := hrel
    have HRS := Lib.hid hrs.out.1
    have HM0 := Lib.hid hrs.out.2
    clear hrs
    go_wp2_with (go_at_call 62; refine Stop.here ?_)
    refine Stop.on ?_
    refine (children_any ad u cap aq q cq wr (HN.out.below HRS.out.below) HRS.out.row (by omega) (by have := HRS.out.qlen; omega)).mono ?_
    intro e w1 h
    obtain ⟨a6, k6, rfl, hb, hr6⟩ := h.view natC_len
    have HR1 := Lib.hid (HRS.out.then hb)
    have HR6 := Lib.hid hr6
    clear h hb hr6 HRS
    obtain ⟨t, hrep, hri⟩ := HR1.out.tr
    have HREP := Lib.hid hrep
    have HRI := Lib.hid hri
    have hkl := kids_len hrep
    have hku := chI_len u q u.length
    have HKA := Lib.hid (fun (i : Nat) (k : T) hk => kids_at (i := i) (k := k) hrep hk)
    obtain ⟨K, hK⟩ : ∃ K, K = chI u q u.length := ⟨_, rfl⟩
    rw [← hK] at HR6 HKA hkl hku ⊢
    clear hK hrep hri
    have HKL := Lib.hid hkl
    clear hkl
    by_cases hl0 : l.length = 0
    · have hz : ((l.length : Int) == 0) = true := by simp [hl0]
      have HL0 := Lib.hid hl0
      clear hl0
      have HE := Lib.hid (show InsR lo u new w (.returned (.slice ad u.length cap)) w1 from ⟨ad, u, cap, rfl, by
        rw [← HRI.out, rI_end (by rw [List.length_eq_zero_iff.1 HL0.out]; rfl), List.append_nil], HN.out.below HR1.out.below, HNIL.out, HR1.out.below, HBD.out⟩)
      go_wp2
      go_ret
      exact HE.out
    · have hz : ((l.length : Int) == 0) = false := by simp; exact fun h => hl0 (by rw [h]; rfl)
      by_cases hq0 : q.length = 0
      · have hq : decide (0 < q.length) = false := decide_eq_false (by omega)
        have HEND := Lib.hid (show (l.isEmpty || (!q.isEmpty && t.ks.isEmpty)) = false by
          rw [List.length_eq_zero_iff.1 hq0]
          cases l with
          | nil => exact absurd rfl hl0
          | cons _ _ => rfl)
        go_wp2
        go_loopw [1, 7, 8] (fun lv iv jv wr => ∃ j : Nat, j ≤ K.length ∧ jv = .int .i64 j ∧ Hid (Below w1.heap.size w1 wr) ∧ ((lv = .slice la l.length lc ∧ iv = .int .i64 (-1) ∧ Hid (∀ (i : Nat) (x : T), i < j → t.ks[i]? = some x → wo l x.s = none)) ∨ (∃ (n : Nat) (r : List PS) (a : Option Addr) (c : Nat), lv = .slice a r.length c ∧ iv = .int .i64 n ∧ Hid (HitP wr u q t l n r a c)))) (fun _ _ jv _ => K.length - (intOf jv).toNat)
        case atStart => exact ⟨0, by omega, rfl, Lib.hid (Below.refl _ _), .inl ⟨rfl, rfl, Lib.hid (fun i _ h => absurd h (Nat.not_lt_zero _))⟩⟩
        case round =>
          obtain ⟨j, hj, rfl, hb2, hrel⟩ := hrel
          have HR2 := Lib.hid (HR1.out.then hb2.out)
          have HR62 := Lib.hid (HR6.out.below hb2.out)
          have HB2 := Lib.hid hb2.out
          clear hb2
          rcases hrel with ⟨rfl, rfl, hno⟩ | ⟨n, r, a, c, rfl, rfl, hhit⟩
          · have HNO := Lib.hid hno.out
            clear hno
            by_cases hjt : j < K.length
            · have jb : (j : Int) < K.length := by omega
              obtain ⟨kt, hkt⟩ := get_some (show j < t.ks.length by rw [← HKL.out]; exact hjt)
              obtain ⟨n, x, hn, hx, hxp, hxs⟩ := HKA.out j kt hkt
              have hnl := (List.getElem?_eq_some_iff.1 hx).1
              have nb : (n : Int) < u.length := by omega
              obtain ⟨b₆, o₆, rfl, hob6, hc6⟩ := HR62.out.get hn
              have HNW := Lib.hid (HN.out.below HR2.out.below)
              obtain ⟨b₀, o₀, rfl, hob0, hc0⟩ := HNW.out.row.get hx
              have e0 := hc6 0 (by omega)
              have g1 := hc0 1 (by omega)
              have g2 := hc0 2 (by omega)
              have g3 := hc0 3 (by omega)
              have g4 := hc0 4 (by omega)
              simp at e0 g1 g2 g3 g4
              have HX := Lib.hid hx
              have HKT := Lib.hid hkt
              have HXP := Lib.hid hxp
              have HXS := Lib.hid hxs
              have HKN := Lib.hid hn
              have HRX := Lib.hid (HNW.out.rd _ (List.mem_of_getElem? hx))
              have h0n : (0 : Int) ≤ (n : Int) := by omega
              clear hc6 hc0 hx hkt hxp hxs hn
              go_wp2_with (go_at_call 20; refine Stop.here ?_)
              refine Stop.on ?_
              refine (withoutR_any la l lc x.s wr HR2.out.ls HRX.out HR2.out.cap HR2.out.lnil (by have := HR2.out.llen; omega)).mono ?_
              intro e w3 h
              obtain ⟨hb3, hcase⟩ := h.view2 HR2.out.ls
              have HB3 := Lib.hid (HB2.out.trans (hb3.mono HB2.out.size))
              have HR63 := Lib.hid (HR62.out.below hb3)
              clear h e0 g1 g2 g3 g4 HR62 HNW HRX
              rcases hcase with ⟨hw, rfl⟩ | ⟨r, a, c, hw, rfl, hsr, hrc, hrn, hrl⟩
              · have HNO2 := Lib.hid (show ∀ (i : Nat) (y : T), i < j + 1 → t.ks[i]? = some y → wo l y.s = none from fun i y hi hy => by
                  by_cases e : i = j
                  · subst e
                    rw [HKT.out] at hy
                    cases hy
                    rw [← HXS.out]; exact hw
                  · exact HNO.out i y (by omega) hy)
                clear hb3 hw HNO
                go_wp2
                go_roundw
                case rel => exact ⟨j + 1, by omega, by go_num, HB3, .inl ⟨rfl, rfl, HNO2⟩⟩
                case measure => simp [intOf]; omega
              · have HHIT := Lib.hid (show HitP w3 u q t l n r a c from ⟨⟨j, kt, x, HKT.out, HX.out, HXP.out, HNO.out, by rw [← HXS.out]; exact hw⟩, hsr.row, hrc, hrn⟩)
                obtain ⟨b₇, o₇, e7, hob7, hc7⟩ := HR63.out.get HKN.out
                cases e7
                have e0 := hc7 0 (by omega)
                simp at e0
                clear hb3 hw hsr hrc hrn hrl HNO hc7
                go_wp2
                go_roundw
                case rel => exact ⟨j + 1, by omega, by go_num, HB3, .inr ⟨n, r, a, c, rfl, rfl, HHIT⟩⟩
                case measure => simp [intOf]; omega
            · obtain rfl : j = K.length := by omega
              have HNEW := Lib.hid ((rI_new (q := q) HEND.out (fun i x hx => HNO.out i x (by rw [HKL.out]; exact (List.getElem?_eq_some_iff.1 hx).1) hx)).symm.trans HRI.out)
              clear HNO HR1 HR6 HR62 HB2 HKA hjt
              have hgs : w.heap.size ≤ wr.heap.size := HR2.out.below.size
              have hmade := World.ownsRow_made (base := w.heap.size) (e := 95) (size := 5) wr #[] 0 hgs (by simp [maxLen]) (by simp)
              have HM := Lib.hid hmade
              clear hmade
              go_wp2_with (at_builtin; refine Stop.here ?_)
              refine Stop.on ?_
              have hcl : Below w.heap.size w (wr.alloc (.cells #[] 95)) := HR2.out.below.alloc hgs _
              refine wpList_append_row rfl _ _ 34 rfl w.heap.size 95 n0 y0 5 88 rfl HND.out.1 HND.out.2.1 HND.out.2.2.1 HND.out.2.2.2.1 HND.out.2.2.2.2 (by omega) ndC_len ndC_one _ _ _ rfl HM.out ad cap u HNIL.out rfl (HN.out.row.below hcl) (by simp only [maxLen]; omega) (by omega) (by simp; omega) ?_
              intro v' w5 hown hgrow hat
              simp only [Nat.zero_add, List.nil_append] at hown
              have hb5 : Below w.heap.size w w5 := below_grown hcl hgrow (by simp; omega) (fun k hk => by cases hk; exact hgs)
              obtain ⟨au, cu, rfl, _, _⟩ := own_val hown
              have h5 : ∀ b, b < wr.heap.size → (Value.slice au u.length cu).ownBlock ≠ some b := fun b hb e => by
                rcases hat with e' | e'
                · rw [e'] at e; cases e; exact Nat.lt_irrefl _ hb
                · rw [e'] at e; cases e; simp at hb; omega
              have hw5 : Below wr.heap.size wr w5 := below_grown ((Below.refl _ _).alloc (Nat.le_refl _) _) hgrow (by simp) (fun k hk => by cases hk; exact Nat.le_refl _)
              have hL3 : L3 w lo w5 u new l la 0 q aq cq K.length au cu u := by
                refine ⟨⟨hb5, hown, fun x hx => ⟨(HN.out.at' x hx).below hb5, fun b off h0 e => h5 b ?_⟩, HN.out.len, HN.out.rd, HBD.out.2⟩, ?_, HR2.out.row.below hw5, HR2.out.nil, ⟨HR2.out.sts.below hw5, fun b off h0 e => h5 b ?_⟩, by have := HR2.out.qlen; omega, rfl⟩
                · obtain ⟨b', off', e', ho, _⟩ := (HN.out.at' x hx) h0
                  rw [e] at e'
                  cases e'
                  exact Nat.lt_of_lt_of_le ho hgs
                · rw [List.drop_zero, ← HNEW.out, HKL.out]
                · obtain ⟨b', off', e', ho, _⟩ := HR2.out.sts h0
                  rw [e] at e'
                  cases e'
                  exact ho
              have HL3 := Lib.hid hL3
              have HLR := Lib.hid HR2.out.rd
              have hll := HR2.out.llen
              clear hcl hown hgrow hat hb5 h5 hw5 hL3 HM HR2 hgs
              go_wp2
              clear HREP HRI HEND HNEW HKL HM0 hj
              go_loopw [5, 11, 12, 13] (fun av uv nv iv wq => ∃ (i : Nat) (qc : List Nat) (aqc : Option Addr) (cqc nc : Nat) (au : Option Addr) (cu : Nat) (u' : List Nd), i ≤ l.length ∧ av = .slice aqc qc.length cqc ∧ uv = .slice au u'.length cu ∧ nv = .int .i64 nc ∧ iv = .int .i64 i ∧ Hid (L3 w lo wq u new l la i qc aqc cqc nc au cu u')) (fun _ _ _ iv _ => l.length - (intOf iv).toNat)
              case atStart => exact ⟨0, q, aq, cq, K.length, au, cu, u, by omega, (by first | rfl | rw [hq0]), rfl, rfl, rfl, HL3⟩
              case round =>
                clear HL3
                obtain ⟨i, qc, aqc, cqc, nc, au, cu, u', hi, rfl, rfl, rfl, rfl, hl3⟩ := hrel
                have HL3 := Lib.hid hl3.out
                clear hl3
                by_cases hit : i < l.length
                · have ib : (i : Int) < l.length := by omega
                  have hu5 : u'.length ≤ 600 := by have := HL3.out.len; omega
                  have hq9 : qc.length + 1 ≤ 900 := by have := HL3.out.qlen; omega
                  have hmade := World.ownsRow_made (base := wr.heap.size) (e := 3) (size := 1) wr #[] 0 (Nat.le_refl _) (by simp [maxLen]) (by simp)
                  have HM := Lib.hid hmade
                  clear hmade
                  go_wp2_with (at_builtin; refine Stop.here ?_)
                  refine Stop.on ?_
                  refine wpList_append_row rfl _ _ 27 rfl wr.heap.size 3 j0 z0 1 8 rfl HJ.out.1 HJ.out.2.1 HJ.out.2.2.1 HJ.out.2.2.2.1 HJ.out.2.2.2.2 (by omega) natC_len natC_one _ _ _ rfl HM.out aqc cqc qc HL3.out.nil rfl (HL3.out.row.below ((Below.refl _ _).alloc (Nat.le_refl _) _)) (by simp only [maxLen]; omega) (by omega) (by simp) ?_
                  intro v1 w6 hown hgrow _
                  simp only [Nat.zero_add, List.nil_append] at hown
                  have hb6 : Below wr.heap.size wr w6 := below_grown ((Below.refl _ _).alloc (Nat.le_refl _) _) hgrow (by simp) (fun k hk => by cases hk; exact Nat.le_refl _)
                  have HO6 := Lib.hid hown
                  have HB6 := Lib.hid hb6
                  clear hown hgrow hb6 HM
                  go_wp2_with (at_builtin; refine Stop.here ?_)
                  refine Stop.on ?_
                  refine wpList_append_row rfl _ _ 27 rfl wr.heap.size 3 j0 z0 1 8 rfl HJ.out.1 HJ.out.2.1 HJ.out.2.2.1 HJ.out.2.2.2.1 HJ.out.2.2.2.2 (by omega) natC_len natC_one _ _ _ rfl (own_alloc' HO6.out _) _ 1 [nc] (fun h => by cases h) rfl (Row.of_block natC_len (heap_alloc_at' _ _ _ (by simp)) (by simp)) (by simp only [maxLen, List.length_singleton]; omega) (by simp only [List.length_singleton]; omega) (by have := HB6.out.size; simp; omega) ?_
                  intro v2 w7 hown hgrow _
                  have hb7 : Below wr.heap.size wr w7 := below_grown (HB6.out.alloc HB6.out.size _) hgrow (by have := HB6.out.size; simp; omega) (fun k hk => (HO6.out.lt k hk).1)
                  rw [← List.flatMap_append] at hown
                  obtain ⟨a2, c2, rfl, hc2, _⟩ := own_val hown
                  have hrow2 : Row 1 natC w7 a2 (qc ++ [nc]) := row_own natC_len hown (by simp)
                  have hnil2 := own_nilcap hown
                  have hnew2 : ∀ b off, a2 = some ⟨b, off, none⟩ → wr.heap.size ≤ b := fun b off e => by
                    subst e
                    exact (hown.lt b rfl).1
                  have HROW2 := Lib.hid hrow2
                  have HNIL2 := Lib.hid hnil2
                  have HNEW2 := Lib.hid hnew2
                  have HB7 := Lib.hid hb7
                  have HNS := Lib.hid (HL3.out.ns.then hb7)
                  have hw7 := HNS.out.below.size
                  have HW7 := Lib.hid hw7
                  have HC2 := Lib.hid (show (qc ++ [nc]).length ≤ c2 by simpa using hc2)
                  clear hown hgrow hb7 hrow2 hnil2 hnew2 HO6 HB6 hw7 hc2
                  obtain ⟨s, hs⟩ := get_some hit
                  have HSR := Lib.hid (HL3.out.ls.1.below HB7.out)
                  obtain ⟨b₈, o₈, rfl, hob8, hc8⟩ := HSR.out.get hs
                  have s0 := hc8 0 (by omega)
                  have s1 := hc8 1 (by omega)
                  have s2 := hc8 2 (by omega)
                  have s3 := hc8 3 (by omega)
                  simp at s0 s1 s2 s3
                  have HSS := Lib.hid hs
                  clear hc8 hs
                  go_wp2_with (at_builtin; refine Stop.here ?_)
                  refine Stop.on ?_
                  refine wpList_append_row rfl _ _ 34 rfl w.heap.size 95 n0 y0 5 88 rfl HND.out.1 HND.out.2.1 HND.out.2.2.1 HND.out.2.2.2.1 HND.out.2.2.2.2 (by omega) ndC_len ndC_one _ _ _ rfl (own_alloc' HNS.out.own _) _ 1 [(⟨qc ++ [nc], a2, c2, s⟩ : Nd)] (fun h => by cases h) rfl (Row.of_block ndC_len (heap_alloc_at' _ _ _ (by simp)) (by simp)) (by simp only [maxLen, List.length_singleton]; omega) (by simp only [List.length_singleton]; omega) (by have := HW7.out; simp; omega) ?_
                  intro v' w8 hown hgrow hat
                  have hns := HNS.out.app (y := ⟨qc ++ [nc], a2, c2, s⟩) HROW2.out (fun b off _ e e' => by
                    have h1 := HNEW2.out b off e
                    have h2 := (HL3.out.ns.own.lt b e').2
                    omega) ⟨by simp only [List.length_append, List.length_singleton]; omega, HC2.out, HNIL2.out⟩ (HLR.out s (List.mem_of_getElem? HSS.out)) (fun b off _ e => by have h1 := HNEW2.out b off e; have h2 := HL3.out.ns.below.size; have h3 := HLO.out; omega) hown hgrow hat
                  have hls := (HL3.out.ls.then HB7.out).app hgrow hat
                  obtain ⟨au', cu', rfl, _, _⟩ := own_val hns.own
                  have HL4 := Lib.hid (show L3 w lo w8 u new l (some ⟨b₈, o₈, none⟩) (i + 1) (qc ++ [nc]) a2 c2 0 au' cu' (u' ++ [⟨qc ++ [nc], a2, c2, s⟩]) from
                    ⟨hns, by
                      rw [← HL3.out.eq, List.map_append, List.append_assoc]
                      obtain ⟨h1, e1⟩ := List.getElem?_eq_some_iff.1 HSS.out
                      rw [List.drop_eq_getElem_cons h1, e1, newN]
                      rfl, (hns.at' ⟨qc ++ [nc], a2, c2, s⟩ (by simp)).1, HNIL2.out, hls, by have := HL3.out.qlen; simp only [List.length_append, List.length_singleton]; omega, by simp [HL3.out.len]; omega⟩)
                  clear hown hgrow hat hns hls HL3 HNS HROW2 HNEW2 HB7 HW7 HSR s0 s1 s2 s3
                  go_wp2
                  go_roundw
                  case rel => exact ⟨i + 1, qc ++ [nc], a2, c2, 0, au', cu', _, by omega, by simp, by simp, rfl, by go_num, HL4⟩
                  case measure => simp [intOf]; omega
                · obtain rfl : i = l.length := by omega
                  have HE := Lib.hid (show InsR lo u new w (.returned (.slice au u'.length cu)) wr from ⟨au, u', cu, rfl, by have := HL3.out.eq; rw [List.drop_length, newN, List.append_nil] at this; exact this, HL3.out.ns.nds, own_nilcap HL3.out.ns.own, HL3.out.ns.below, fun b off _ e => Nat.le_trans HLO.out (HL3.out.ns.own.lt b (by rw [e]; rfl)).1, HL3.out.ns.lo⟩)
                  clear HL3
                  go_wp2
                  go_ret
                  exact HE.out
          · obtain ⟨⟨i, kt, x, hki, hx, hxp, hno, hw⟩, hrow, hrc, hrn⟩ := hhit.out
            have hnl := (List.getElem?_eq_some_iff.1 hx).1
            have nb : (n : Int) < u.length := by omega
            have h0n : (0 : Int) ≤ (n : Int) := by omega
            have h0m : decide ((n : Int) < 0) = false := by simp
            have h0p : decide ((0 : Int) ≤ (n : Int)) = true := by simp
            have HNW := Lib.hid (HN.out.below HR2.out.below)
            obtain ⟨b₀, o₀, rfl, hob0, hc0⟩ := HNW.out.row.get hx
            have g0 := hc0 0 (by omega)
            simp at g0
            have hmx := List.mem_of_getElem? hx
            have hxl := HD.out x hmx
            have hrl := wo_len hw
            have hpl : x.p.length = q.length + 1 := by rw [hxp]; simp
            have HRN := Lib.hid (show RSt w wr u new x.p x.ad x.cap r a c from
              ⟨HR2.out.below, ⟨kt, by rw [hxp]; exact HREP.out.kid hki, by rw [hxp, show (q ++ [i]).isEmpty = false by simp, ← rI_down (root := q.isEmpty) HEND.out hki hno hw]; exact HRI.out⟩, HNW.out.at' x hmx, (HN.out.len x hmx).2.2, by have := HM0.out; omega, hrow, fun s hs => HR2.out.rd s (wo_sub hw s hs), hrc, hrn, by have := HR2.out.llen; omega⟩)
            have HMR := Lib.hid (show r.length ≤ m0 by have := HM0.out; omega)
            have HPL := Lib.hid hpl
            have HP9 := Lib.hid (show q.length ≤ 900 by have := HR2.out.qlen; omega)
            clear hki hxp hno hw hrow hrc hrn hhit hc0 hmx hxl hrl hpl HNW HR2 HR62 HB2
            by_cases hjt : j < K.length
            · have jb : decide ((j : Int) < (K.length : Int)) = true := by simp; omega
              go_wp2
              go_roundw
              case rel => exact ⟨x.p, x.ad, x.cap, r, a, c, rfl, rfl, Lib.hid ⟨HRN.out, HMR.out⟩⟩
              case measure => simp only [lenOf]; rw [HPL.out]; have := HP9.out; omega
            · have jb : decide ((j : Int) < (K.length : Int)) = false := by simp; omega
              go_wp2
              go_roundw
              case rel => exact ⟨x.p, x.ad, x.cap, r, a, c, rfl, rfl, Lib.hid ⟨HRN.out, HMR.out⟩⟩
              case measure => simp only [lenOf]; rw [HPL.out]; have := HP9.out; omega
      · have hq : decide (0 < q.length) = true := decide_eq_true (by omega)
        by_cases hk0 : K.length = 0
        · have hk : ((K.length : Int) == 0) = true := by simp [hk0]
          have HK0 := Lib.hid hk0
          have HQ0 := Lib.hid hq0
          clear hk0 hq0
          have HE := Lib.hid (show InsR lo u new w (.returned (.slice ad u.length cap)) w1 from ⟨ad, u, cap, rfl, by
            rw [← HRI.out, rI_end (by
              have h1 : t.ks = [] := List.length_eq_zero_iff.1 (by rw [← HKL.out]; exact HK0.out)
              have h2 : q.isEmpty = false := by
                cases q with
                | nil => exact absurd rfl HQ0.out
                | cons _ _ => rfl
              rw [h1, h2]
              simp), List.append_nil], HN.out.below HR1.out.below, HNIL.out, HR1.out.below, HBD.out⟩)
          go_wp2
          go_ret
          exact HE.out
        · have hk : ((K.length : Int) == 0) = false := by simp; exact fun h => hk0 (by rw [h]; rfl)
          have HEND := Lib.hid (show (l.isEmpty || (!q.isEmpty && t.ks.isEmpty)) = false by
            have h1 : t.ks.isEmpty = false := by
              cases h : t.ks with
              | nil => exact absurd (by rw [HKL.out, h]; rfl) hk0
              | cons _ _ => rfl
            rw [h1]
            cases l with
            | nil => exact absurd rfl hl0
            | cons _ _ => simp)
          go_wp2
          go_loopw [1, 7, 8] (fun lv iv jv wr => ∃ j : Nat, j ≤ K.length ∧ jv = .int .i64 j ∧ Hid (Below w1.heap.size w1 wr) ∧ ((lv = .slice la l.length lc ∧ iv = .int .i64 (-1) ∧ Hid (∀ (i : Nat) (x : T), i < j → t.ks[i]? = some x → wo l x.s = none)) ∨ (∃ (n : Nat) (r : List PS) (a : Option Addr) (c : Nat), lv = .slice a r.length c ∧ iv = .int .i64 n ∧ Hid (HitP wr u q t l n r a c)))) (fun _ _ jv _ => K.length - (intOf jv).toNat)
          case atStart => exact ⟨0, by omega, rfl, Lib.hid (Below.refl _ _), .inl ⟨rfl, rfl, Lib.hid (fun i _ h => absurd h (Nat.not_lt_zero _))⟩⟩
          case round =>
            obtain ⟨j, hj, rfl, hb2, hrel⟩ := hrel
            have HR2 := Lib.hid (HR1.out.then hb2.out)
            have HR62 := Lib.hid (HR6.out.below hb2.out)
            have HB2 := Lib.hid hb2.out
            clear hb2
            rcases hrel with ⟨rfl, rfl, hno⟩ | ⟨n, r, a, c, rfl, rfl, hhit⟩
            · have HNO := Lib.hid hno.out
              clear hno
              by_cases hjt : j < K.length
              · have jb : (j : Int) < K.length := by omega
                obtain ⟨kt, hkt⟩ := get_some (show j < t.ks.length by rw [← HKL.out]; exact hjt)
                obtain ⟨n, x, hn, hx, hxp, hxs⟩ := HKA.out j kt hkt
                have hnl := (List.getElem?_eq_some_iff.1 hx).1
                have nb : (n : Int) < u.length := by omega
                obtain ⟨b₆, o₆, rfl, hob6, hc6⟩ := HR62.out.get hn
                have HNW := Lib.hid (HN.out.below HR2.out.below)
                obtain ⟨b₀, o₀, rfl, hob0, hc0⟩ := HNW.out.row.get hx
                have e0 := hc6 0 (by omega)
                have g1 := hc0 1 (by omega)
                have g2 := hc0 2 (by omega)
                have g3 := hc0 3 (by omega)
                have g4 := hc0 4 (by omega)
                simp at e0 g1 g2 g3 g4
                have HX := Lib.hid hx
                have HKT := Lib.hid hkt
                have HXP := Lib.hid hxp
                have HXS := Lib.hid hxs
                have HKN := Lib.hid hn
                have HRX := Lib.hid (HNW.out.rd _ (List.mem_of_getElem? hx))
                have h0n : (0 : Int) ≤ (n : Int) := by omega
                clear hc6 hc0 hx hkt hxp hxs hn
                go_wp2_with (go_at_call 20; refine Stop.here ?_)
                refine Stop.on ?_
                refine (withoutR_any la l lc x.s wr HR2.out.ls HRX.out HR2.out.cap HR2.out.lnil (by have := HR2.out.llen; omega)).mono ?_
                intro e w3 h
                obtain ⟨hb3, hcase⟩ := h.view2 HR2.out.ls
                have HB3 := Lib.hid (HB2.out.trans (hb3.mono HB2.out.size))
                have HR63 := Lib.hid (HR62.out.below hb3)
                clear h e0 g1 g2 g3 g4 HR62 HNW HRX
                rcases hcase with ⟨hw, rfl⟩ | ⟨r, a, c, hw, rfl, hsr, hrc, hrn, hrl⟩
                · have HNO2 := Lib.hid (show ∀ (i : Nat) (y : T), i < j + 1 → t.ks[i]? = some y → wo l y.s = none from fun i y hi hy => by
                    by_cases e : i = j
                    · subst e
                      rw [HKT.out] at hy
                      cases hy
                      rw [← HXS.out]; exact hw
                    · exact HNO.out i y (by omega) hy)
                  clear hb3 hw HNO
                  go_wp2
                  go_roundw
                  case rel => exact ⟨j + 1, by omega, by go_num, HB3, .inl ⟨rfl, rfl, HNO2⟩⟩
                  case measure => simp [intOf]; omega
                · have HHIT := Lib.hid (show HitP w3 u q t l n r a c from ⟨⟨j, kt, x, HKT.out, HX.out, HXP.out, HNO.out, by rw [← HXS.out]; exact hw⟩, hsr.row, hrc, hrn⟩)
                  obtain ⟨b₇, o₇, e7, hob7, hc7⟩ := HR63.out.get HKN.out
                  cases e7
                  have e0 := hc7 0 (by omega)
                  simp at e0
                  clear hb3 hw hsr hrc hrn hrl HNO hc7
                  go_wp2
                  go_roundw
                  case rel => exact ⟨j + 1, by omega, by go_num, HB3, .inr ⟨n, r, a, c, rfl, rfl, HHIT⟩⟩
                  case measure => simp [intOf]; omega
              · obtain rfl : j = K.length := by omega
                have HNEW := Lib.hid ((rI_new (q := q) HEND.out (fun i x hx => HNO.out i x (by rw [HKL.out]; exact (List.getElem?_eq_some_iff.1 hx).1) hx)).symm.trans HRI.out)
                clear HNO HR1 HR6 HR62 HB2 HKA hjt
                have hgs : w.heap.size ≤ wr.heap.size := HR2.out.below.size
                have hmade := World.ownsRow_made (base := w.heap.size) (e := 95) (size := 5) wr #[] 0 hgs (by simp [maxLen]) (by simp)
                have HM := Lib.hid hmade
                clear hmade
                go_wp2_with (at_builtin; refine Stop.here ?_)
                refine Stop.on ?_
                have hcl : Below w.heap.size w (wr.alloc (.cells #[] 95)) := HR2.out.below.alloc hgs _
                refine wpList_append_row rfl _ _ 34 rfl w.heap.size 95 n0 y0 5 88 rfl HND.out.1 HND.out.2.1 HND.out.2.2.1 HND.out.2.2.2.1 HND.out.2.2.2.2 (by omega) ndC_len ndC_one _ _ _ rfl HM.out ad cap u HNIL.out rfl (HN.out.row.below hcl) (by simp only [maxLen]; omega) (by omega) (by simp; omega) ?_
                intro v' w5 hown hgrow hat
                simp only [Nat.zero_add, List.nil_append] at hown
                have hb5 : Below w.heap.size w w5 := below_grown hcl hgrow (by simp; omega) (fun k hk => by cases hk; exact hgs)
                obtain ⟨au, cu, rfl, _, _⟩ := own_val hown
                have h5 : ∀ b, b < wr.heap.size → (Value.slice au u.length cu).ownBlock ≠ some b := fun b hb e => by
                  rcases hat with e' | e'
                  · rw [e'] at e; cases e; exact Nat.lt_irrefl _ hb
                  · rw [e'] at e; cases e; simp at hb; omega
                have hw5 : Below wr.heap.size wr w5 := below_grown ((Below.refl _ _).alloc (Nat.le_refl _) _) hgrow (by simp) (fun k hk => by cases hk; exact Nat.le_refl _)
                have hL3 : L3 w lo w5 u new l la 0 q aq cq K.length au cu u := by
                  refine ⟨⟨hb5, hown, fun x hx => ⟨(HN.out.at' x hx).below hb5, fun b off h0 e => h5 b ?_⟩, HN.out.len, HN.out.rd, HBD.out.2⟩, ?_, HR2.out.row.below hw5, HR2.out.nil, ⟨HR2.out.sts.below hw5, fun b off h0 e => h5 b ?_⟩, by have := HR2.out.qlen; omega, rfl⟩
                  · obtain ⟨b', off', e', ho, _⟩ := (HN.out.at' x hx) h0
                    rw [e] at e'
                    cases e'
                    exact Nat.lt_of_lt_of_le ho hgs
                  · rw [List.drop_zero, ← HNEW.out, HKL.out]
                  · obtain ⟨b', off', e', ho, _⟩ := HR2.out.sts h0
                    rw [e] at e'
                    cases e'
                    exact ho
                have HL3 := Lib.hid hL3
                have HLR := Lib.hid HR2.out.rd
                have hll := HR2.out.llen
                clear hcl hown hgrow hat hb5 h5 hw5 hL3 HM HR2 hgs
                go_wp2
                clear HREP HRI HEND HNEW HKL HM0 hj
                go_loopw [5, 11, 12, 13] (fun av uv nv iv wq => ∃ (i : Nat) (qc : List Nat) (aqc : Option Addr) (cqc nc : Nat) (au : Option Addr) (cu : Nat) (u' : List Nd), i ≤ l.length ∧ av = .slice aqc qc.length cqc ∧ uv = .slice au u'.length cu ∧ nv = .int .i64 nc ∧ iv = .int .i64 i ∧ Hid (L3 w lo wq u new l la i qc aqc cqc nc au cu u')) (fun _ _ _ iv _ => l.length - (intOf iv).toNat)
                case atStart => exact ⟨0, q, aq, cq, K.length, au, cu, u, by omega, (by first | rfl | rw [hq0]), rfl, rfl, rfl, HL3⟩
                case round =>
                  clear HL3
                  obtain ⟨i, qc, aqc, cqc, nc, au, cu, u', hi, rfl, rfl, rfl, rfl, hl3⟩ := hrel
                  have HL3 := Lib.hid hl3.out
                  clear hl3
                  by_cases hit : i < l.length
                  · have ib : (i : Int) < l.length := by omega
                    have hu5 : u'.length ≤ 600 := by have := HL3.out.len; omega
                    have hq9 : qc.length + 1 ≤ 900 := by have := HL3.out.qlen; omega
                    have hmade := World.ownsRow_made (base := wr.heap.size) (e := 3) (size := 1) wr #[] 0 (Nat.le_refl _) (by simp [maxLen]) (by simp)
                    have HM := Lib.hid hmade
                    clear hmade
                    go_wp2_with (at_builtin; refine Stop.here ?_)
                    refine Stop.on ?_
                    refine wpList_append_row rfl _ _ 27 rfl wr.heap.size 3 j0 z0 1 8 rfl HJ.out.1 HJ.out.2.1 HJ.out.2.2.1 HJ.out.2.2.2.1 HJ.out.2.2.2.2 (by omega) natC_len natC_one _ _ _ rfl HM.out aqc cqc qc HL3.out.nil rfl (HL3.out.row.below ((Below.refl _ _).alloc (Nat.le_refl _) _)) (by simp only [maxLen]; omega) (by omega) (by simp) ?_
                    intro v1 w6 hown hgrow _
                    simp only [Nat.zero_add, List.nil_append] at hown
                    have hb6 : Below wr.heap.size wr w6 := below_grown ((Below.refl _ _).alloc (Nat.le_refl _) _) hgrow (by simp) (fun k hk => by cases hk; exact Nat.le_refl _)
                    have HO6 := Lib.hid hown
                    have HB6 := Lib.hid hb6
                    clear hown hgrow hb6 HM
                    go_wp2_with (at_builtin; refine Stop.here ?_)
                    refine Stop.on ?_
                    refine wpList_append_row rfl _ _ 27 rfl wr.heap.size 3 j0 z0 1 8 rfl HJ.out.1 HJ.out.2.1 HJ.out.2.2.1 HJ.out.2.2.2.1 HJ.out.2.2.2.2 (by omega) natC_len natC_one _ _ _ rfl (own_alloc' HO6.out _) _ 1 [nc] (fun h => by cases h) rfl (Row.of_block natC_len (heap_alloc_at' _ _ _ (by simp)) (by simp)) (by simp only [maxLen, List.length_singleton]; omega) (by simp only [List.length_singleton]; omega) (by have := HB6.out.size; simp; omega) ?_
                    intro v2 w7 hown hgrow _
                    have hb7 : Below wr.heap.size wr w7 := below_grown (HB6.out.alloc HB6.out.size _) hgrow (by have := HB6.out.size; simp; omega) (fun k hk => (HO6.out.lt k hk).1)
                    rw [← List.flatMap_append] at hown
                    obtain ⟨a2, c2, rfl, hc2, _⟩ := own_val hown
                    have hrow2 : Row 1 natC w7 a2 (qc ++ [nc]) := row_own natC_len hown (by simp)
                    have hnil2 := own_nilcap hown
                    have hnew2 : ∀ b off, a2 = some ⟨b, off, none⟩ → wr.heap.size ≤ b := fun b off e => by
                      subst e
                      exact (hown.lt b rfl).1
                    have HROW2 := Lib.hid hrow2
                    have HNIL2 := Lib.hid hnil2
                    have HNEW2 := Lib.hid hnew2
                    have HB7 := Lib.hid hb7
                    have HNS := Lib.hid (HL3.out.ns.then hb7)
                    have hw7 := HNS.out.below.size
                    have HW7 := Lib.hid hw7
                    have HC2 := Lib.hid (show (qc ++ [nc]).length ≤ c2 by simpa using hc2)
                    clear hown hgrow hb7 hrow2 hnil2 hnew2 HO6 HB6 hw7 hc2
                    obtain ⟨s, hs⟩ := get_some hit
                    have HSR := Lib.hid (HL3.out.ls.1.below HB7.out)
                    obtain ⟨b₈, o₈, rfl, hob8, hc8⟩ := HSR.out.get hs
                    have s0 := hc8 0 (by omega)
                    have s1 := hc8 1 (by omega)
                    have s2 := hc8 2 (by omega)
                    have s3 := hc8 3 (by omega)
                    simp at s0 s1 s2 s3
                    have HSS := Lib.hid hs
                    clear hc8 hs
                    go_wp2_with (at_builtin; refine Stop.here ?_)
                    refine Stop.on ?_
                    refine wpList_append_row rfl _ _ 34 rfl w.heap.size 95 n0 y0 5 88 rfl HND.out.1 HND.out.2.1 HND.out.2.2.1 HND.out.2.2.2.1 HND.out.2.2.2.2 (by omega) ndC_len ndC_one _ _ _ rfl (own_alloc' HNS.out.own _) _ 1 [(⟨qc ++ [nc], a2, c2, s⟩ : Nd)] (fun h => by cases h) rfl (Row.of_block ndC_len (heap_alloc_at' _ _ _ (by simp)) (by simp)) (by simp only [maxLen, List.length_singleton]; omega) (by simp only [List.length_singleton]; omega) (by have := HW7.out; simp; omega) ?_
                    intro v' w8 hown hgrow hat
                    have hns := HNS.out.app (y := ⟨qc ++ [nc], a2, c2, s⟩) HROW2.out (fun b off _ e e' => by
                      have h1 := HNEW2.out b off e
                      have h2 := (HL3.out.ns.own.lt b e').2
                      omega) ⟨by simp only [List.length_append, List.length_singleton]; omega, HC2.out, HNIL2.out⟩ (HLR.out s (List.mem_of_getElem? HSS.out)) (fun b off _ e => by have h1 := HNEW2.out b off e; have h2 := HL3.out.ns.below.size; have h3 := HLO.out; omega) hown hgrow hat
                    have hls := (HL3.out.ls.then HB7.out).app hgrow hat
                    obtain ⟨au', cu', rfl, _, _⟩ := own_val hns.own
                    have HL4 := Lib.hid (show L3 w lo w8 u new l (some ⟨b₈, o₈, none⟩) (i + 1) (qc ++ [nc]) a2 c2 0 au' cu' (u' ++ [⟨qc ++ [nc], a2, c2, s⟩]) from
                      ⟨hns, by
                        rw [← HL3.out.eq, List.map_append, List.append_assoc]
                        obtain ⟨h1, e1⟩ := List.getElem?_eq_some_iff.1 HSS.out
                        rw [List.drop_eq_getElem_cons h1, e1, newN]
                        rfl, (hns.at' ⟨qc ++ [nc], a2, c2, s⟩ (by simp)).1, HNIL2.out, hls, by have := HL3.out.qlen; simp only [List.length_append, List.length_singleton]; omega, by simp [HL3.out.len]; omega⟩)
                    clear hown hgrow hat hns hls HL3 HNS HROW2 HNEW2 HB7 HW7 HSR s0 s1 s2 s3
                    go_wp2
                    go_roundw
                    case rel => exact ⟨i + 1, qc ++ [nc], a2, c2, 0, au', cu', _, by omega, by simp, by simp, rfl, by go_num, HL4⟩
                    case measure => simp [intOf]; omega
                  · obtain rfl : i = l.length := by omega
                    have HE := Lib.hid (show InsR lo u new w (.returned (.slice au u'.length cu)) wr from ⟨au, u', cu, rfl, by have := HL3.out.eq; rw [List.drop_length, newN, List.append_nil] at this; exact this, HL3.out.ns.nds, own_nilcap HL3.out.ns.own, HL3.out.ns.below, fun b off _ e => Nat.le_trans HLO.out (HL3.out.ns.own.lt b (by rw [e]; rfl)).1, HL3.out.ns.lo⟩)
                    clear HL3
                    go_wp2
                    go_ret
                    exact HE.out
            · obtain ⟨⟨i, kt, x, hki, hx, hxp, hno, hw⟩, hrow, hrc, hrn⟩ := hhit.out
              have hnl := (List.getElem?_eq_some_iff.1 hx).1
              have nb : (n : Int) < u.length := by omega
              have h0n : (0 : Int) ≤ (n : Int) := by omega
              have h0m : decide ((n : Int) < 0) = false := by simp
              have h0p : decide ((0 : Int) ≤ (n : Int)) = true := by simp
              have HNW := Lib.hid (HN.out.below HR2.out.below)
              obtain ⟨b₀, o₀, rfl, hob0, hc0⟩ := HNW.out.row.get hx
              have g0 := hc0 0 (by omega)
              simp at g0
              have hmx := List.mem_of_getElem? hx
              have hxl := HD.out x hmx
              have hrl := wo_len hw
              have hpl : x.p.length = q.length + 1 := by rw [hxp]; simp
              have HRN := Lib.hid (show RSt w wr u new x.p x.ad x.cap r a c from
                ⟨HR2.out.below, ⟨kt, by rw [hxp]; exact HREP.out.kid hki, by rw [hxp, show (q ++ [i]).isEmpty = false by simp, ← rI_down (root := q.isEmpty) HEND.out hki hno hw]; exact HRI.out⟩, HNW.out.at' x hmx, (HN.out.len x hmx).2.2, by have := HM0.out; omega, hrow, fun s hs => HR2.out.rd s (wo_sub hw s hs), hrc, hrn, by have := HR2.out.llen; omega⟩)
              have HMR := Lib.hid (show r.length ≤ m0 by have := HM0.out; omega)
              have HPL := Lib.hid hpl
              have HP9 := Lib.hid (show q.length ≤ 900 by have := HR2.out.qlen; omega)
              clear hki hxp hno hw hrow hrc hrn hhit hc0 hmx hxl hrl hpl HNW HR2 HR62 HB2
              by_cases hjt : j < K.length
              · have jb : decide ((j : Int) < (K.length : Int)) = true := by simp; omega
                go_wp2
                go_roundw
                case rel => exact ⟨x.p, x.ad, x.cap, r, a, c, rfl, rfl, Lib.hid ⟨HRN.out, HMR.out⟩⟩
                case measure => simp only [lenOf]; rw [HPL.out]; have := HP9.out; omega
              · have jb : decide ((j : Int) < (K.length : Int)) = false := by simp; omega
                go_wp2
                go_roundw
                case rel => exact ⟨x.p, x.ad, x.cap, r, a, c, rfl, rfl, Lib.hid ⟨HRN.out, HMR.out⟩⟩
                case measure => simp only [lenOf]; rw [HPL.out]; have := HP9.out; omega
end Go.Proofs.Ytmgiojkdcpolfaa
