/- From the contract of a law's Go function to the law's statement. -/
import Derived.Test.YtbhkcejjehgfcaaLib
import Derived.ProofKit
import Derived.HandedShaped
namespace Go.Proofs.Ytbhkcejjehgfcaa
open Go.RowKit Go.Sort Go.ChangeShapes Go.WideShapes Go.ChangeAt

theorem trodAll_length {H : Type} {enc : TypeId × Value → H} {P : Program} {w : World} {base : Nat} {spare : Nat → Bool} {held : Bool} : ∀ {ts : List TypeId} {vs : List Value} {ds : List (DataW H)} {ps : List MemPlace}, DataW.TrodAll enc P w base spare held ts vs ds ps → ds.length = ts.length
  | [], [], [], _, _ => rfl
  | _ :: _, _ :: _, _ :: _, _, ⟨_, _, _, h, _⟩ => by simp [trodAll_length h]
theorem trodAll_below {H : Type} {enc : TypeId × Value → H} {P : Program} {W W' : World} (hl : laidOutB P = true) (hb : Below W.heap.size W W') : ∀ {ts : List TypeId} {vs : List Value} {ds : List (DataW H)} {ps : List MemPlace}, (∀ t ∈ ts, P.readableRec t = true ∧ t < P.types.size) →
    DataW.TrodAll enc P W 0 (fun _ => true) true ts vs ds ps → (∀ x ∈ ps, x.block < W.heap.size) → DataW.TrodAll enc P W' 0 (fun b => decide (b < W.heap.size)) true ts vs ds ps
  | [], [], [], _, _, h, _ => h
  | t :: _, _ :: _, _ :: _, _, hT, ⟨p, q, h1, h2, e⟩, hs =>
    ⟨p, q, Below.trod hl (hT t (List.mem_cons.2 (.inl rfl))).1 (hT t (List.mem_cons.2 (.inl rfl))).2 h1 hb (fun x hx => hs x (by rw [e]; exact List.mem_append_left _ hx)),
      trodAll_below hl hb (fun t ht => hT t (List.mem_cons.2 (.inr ht))) h2 (fun x hx => hs x (by rw [e]; exact List.mem_append_right _ hx)), e⟩

theorem law_post {H : Type} {enc : TypeId × Value → H} {P : Program} {f : Func} {s : ChangeSpec} {B : TypeId} (hl : laidOutB P = true) (hps : ∀ t ∈ f.params.toList, P.readableRec t = true ∧ t < P.types.size) (hres : f.resultTypes = #[B]) (hB : P.underlying B = some .bool)
    {W W' : World} (hb : Below W.heap.size W W') {args : Array Value} {ds gs : List (DataW H)} {before : List MemPlace} (hv : s.vars = []) (hW : DataW.Whole enc P f.params.toList s.vars false W args.toList ds gs before)
    (hspec : ∀ ds : List (DataW H), ds.length = f.params.size → s.fn H ds = { results := [.lit (.bool true)], args := ds }) :
    s.post enc P f false true false false W args (.bool true) W' := by
  have hW' := hW
  have hlt := hW.lt
  rw [hv] at hW
  obtain ⟨p, q, hA, hV, rfl, hfz, hnd⟩ := hW
  obtain ⟨rfl, rfl⟩ := trodVars_none hV
  have hsp := hspec ds (by rw [trodAll_length hA]; simp)
  have hlt' : ∀ x ∈ p, x.block < W.heap.size := fun x hx => hlt x (List.mem_append_left _ hx)
  refine ⟨ds, [], _, [], p, [], hW', ?_, ?_, ?_, hb.frame _, fun h => by cases h⟩
  · rw [List.append_nil, hsp, hres]
    exact trodAll_mk1 (shut_bool hB true)
  · rw [List.append_nil, hsp]
    exact trodAll_below hl hb hps hA hlt'
  · rw [List.append_nil, hsp, hv]; rfl

theorem law_lifted {H : Type} {enc : TypeId × Value → H} {C : Checked} {os : Os} {f : FuncId} {fn : Func} {s : ChangeSpec} {B : TypeId} (own : ownKnob C.prog.godebug = none) (started : os.Started) (noInit : C.prog.inits.idxOf? f = none) (hfn : C.prog.funcs[f]? = some fn)
    (witness : ∃ (w : World) (tape : Tape) (i : Input), w.os = os ∧ (w.forCall tape i).Shaped C.prog ∧ i.vars = [] ∧ Input.okWide C.prog (w.forCall tape i) .any w.heap.size f i ∧
      s.pre6 enc C.prog fn [] false (w.forCall tape i).memory i.args ∧ ({} : Assume).holds C.prog (lone (Frame.enter C.prog f i.args .normal) [] (w.forCall tape i)))
    (hl : laidOutB C.prog = true) (hps : (fn.params.toList.all fun t => C.prog.readableRec t && decide (t < C.prog.types.size)) = true) (hres : fn.resultTypes = #[B]) (hB : C.prog.underlying B = some .bool) (hv : s.vars = [])
    (hspec : ∀ ds : List (DataW H), ds.length = fn.params.size → s.fn H ds = { results := [.lit (.bool true)], args := ds })
    (contract : ∀ (W : World) (base : Nat) (args : Array Value) (ds : List (DataW H)) (p : List MemPlace),
      (∀ (j : Nat) t v, fn.params[j]? = some t → args[j]? = some v → Value.okWide C.prog W .any base t v) →
      DataW.TrodAll enc C.prog W 0 (fun _ => true) true fn.params.toList args.toList ds p → (∀ x ∈ p, x.block < W.heap.size) → W.noneFrozen p →
      (DataW.weightsEach C.prog fn.params.toList ds).all (· ≤ reachBytes) = true → W.ShapedOpen C.prog →
      Calls C.prog f args W (Gives (.bool true) W)) :
    ReturnsInHanded {} C os f .any (s.pre6 enc C.prog fn [] false) (s.post enc C.prog fn false true false false) := by
  refine returnsInHanded_of_change_shaped own started noInit hfn witness ?_
  intro W base args ds gs before hval hW _ hw hsh _
  have hW' := hW
  have hlt := hW.lt
  rw [hv] at hW
  obtain ⟨p, q, hA, hV, rfl, hfz, _⟩ := hW
  obtain ⟨rfl, rfl⟩ := trodVars_none hV
  have hnf : W.noneFrozen p := fun b off h => hfz b off (List.mem_append_left _ h)
  have hT : ∀ t ∈ fn.params.toList, C.prog.readableRec t = true ∧ t < C.prog.types.size := fun t ht => by
    have := List.all_eq_true.1 hps t ht
    simpa using this
  refine (contract W base args ds p hval hA (fun x hx => hlt x (List.mem_append_left _ hx)) hnf ?_ hsh).mono fun e W' h => ?_
  · simpa [ChangeSpec.plain, DataSpec.varTypes, hv] using hw
  · obtain ⟨rfl, q, rfl⟩ := h
    exact ⟨_, rfl, law_post hl hT hres hB (gw_below _ _) hv hW' hspec⟩

/-! ### Arguments by value -/
theorem cell_int {P : Program} {w : World} {r : Reach} {base : Nat} {u : TypeId} {v : Value} {k : IntKind} (hu : P.underlying u = some (.int k)) (h : Cell.okWide P w r base u v) : ∃ n, v = .int k n ∧ k.has n := by
  cases v <;> simp [Cell.okWide, Cell.ok, hu] at h
  obtain ⟨rfl, h2⟩ := h
  exact ⟨_, rfl, h2⟩
theorem cell_bool {P : Program} {w : World} {r : Reach} {base : Nat} {u : TypeId} {v : Value} (hu : P.underlying u = some .bool) (h : Cell.okWide P w r base u v) : ∃ b, v = .bool b := by
  cases v <;> simp [Cell.okWide, Cell.ok, hu] at h
  exact ⟨_, rfl⟩
theorem has_i64 {n : Int} (h : IntKind.i64.has n) : -9223372036854775808 ≤ n ∧ n ≤ 9223372036854775807 := by
  simp only [IntKind.has, IntKind.min, IntKind.max, IntKind.bits, IntKind.signed] at h
  simpa using h
theorem okWide_row {P : Program} {w : World} {r : Reach} {base : Nat} {t : TypeId} {v : Value} {ts : List TypeId} {n : Nat} (hu : (match P.underlying t with | some (.struct _) | some (.array _ _) => true | _ => false) = true) (hts : P.cellTypes P.depth t = some ts) (hn : P.cellsOf t = n) (hl : ts.length = n)
    (h : Value.okWide P w r base t v) : ∃ cs, v = .agg cs ∧ cs.size = n ∧ ∀ (i : Nat) x u, cs[i]? = some x → ts[i]? = some u → Cell.okWide P w r base u x := by
  unfold Value.okWide at h
  have h' : ∃ cs, v = .agg cs ∧ cs.size = P.cellsOf t ∧ Row.okWide P w r base t cs := by
    revert h hu
    cases P.underlying t with
    | none => intro hu; simp at hu
    | some d => cases d <;> intro hu <;> first | (simp at hu; done) | exact fun h => h
  obtain ⟨cs, rfl, hs, ts', hts', _, hc⟩ := h'
  rw [hts] at hts'
  obtain rfl : ts = ts' := Option.some.inj hts'
  refine ⟨cs, rfl, hs.trans hn, fun i x u hx hi => ?_⟩
  obtain ⟨u', hu', hok⟩ := hc i x hx
  have hlt : i < n := by
    have := (List.getElem?_eq_some_iff.1 hi).1
    omega
  rw [Nat.mod_eq_of_lt (by omega), hi] at hu'
  obtain rfl : u = u' := Option.some.inj hu'
  exact hok

end Go.Proofs.Ytbhkcejjehgfcaa
