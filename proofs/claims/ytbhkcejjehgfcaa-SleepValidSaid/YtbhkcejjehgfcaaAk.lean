/- Rules as a walk uses them. -/
import Derived.Test.YtbhkcejjehgfcaaAj
namespace Go.Proofs.Ytbhkcejjehgfcaa
open Go.RowKit Go.Sort

section
variable {F : Fence} {P : Program} {Q : Exit → ASt → Prop} {s : ASt}
theorem T.seqK {x y : Code} (h : ∀ K : ASt → Prop, (∀ s, T F P y Q s → K s) → T F P x (ThenA K Q) s) : T F P (.seq x y) Q s := T.seq (h _ fun _ h => h)
theorem T.reg [FOk F] {id : Nat} {l : List Oper} (hd : noDefB l = true) (h : ∀ K : ASt → Prop, (∀ s, Q .normal s → K s) → WL P (l.map (·.dst)) K l s) : T F P (.region id l.toArray false) Q s := T.region' hd (h _ fun _ h => h)
theorem T.drw [FOk F] {id : Nat} {l : List Oper} (n : Nat) (hm : P.follows .mixedOrders = true) (hB : (noDefB l && drawB l n s.n) = true) (h : ∀ K : ASt → Prop, (∀ s, Q .normal s → K s) → WD P (l.map (·.dst)) K n l s) : T F P (.region id l.toArray true) Q s := T.draw' n hm (Bool.and_eq_true_iff.1 hB).1 (Bool.and_eq_true_iff.1 hB).2 (h _ fun _ h => h)
theorem T.condT {c : Operand} {x y : Code} (hc : s.ev c = .p (.val (.bool true))) (h : T F P x Q s) : T F P (.cond c x y) Q s := T.cond hc (fun _ => h) (fun e => by cases e)
theorem T.condF {c : Operand} {x y : Code} (hc : s.ev c = .p (.val (.bool false))) (h : T F P y Q s) : T F P (.cond c x y) Q s := T.cond hc (fun e => by cases e) (fun _ => h)
/-- A loop; S: what is known at its head. -/
theorem T.loopK {ι : Type} {c : Code} (S : ι → ASt) (I : ι → Prop) (μ : ι → Nat) (i₀ : ι) (hI : I i₀) (h0 : Weak s (S i₀)) (hr : ∀ i, I i → ∀ K : ASt → Prop, (∀ s' j, Weak s' (S j) → I j → μ j < μ i → K s') → T F P c (ThenA K Q) (S i)) : T F P (.loop c) Q s :=
  T.loop (ι := {i : ι // I i}) (fun i => S i.1) (fun i => μ i.1) ⟨i₀, hI⟩ h0 fun i => hr i.1 i.2 _ fun _ j h1 h2 h3 => ⟨⟨j, h2⟩, h1, h3⟩
end
theorem cv_int (k : IntKind) (n : Int) : cv (.int k n) = .p (.val (.int k n)) := rfl
theorem cv_bool (b : Bool) : cv (.bool b) = .p (.val (.bool b)) := rfl
theorem cv_slice (a : Option Addr) (n c : Nat) : cv (.slice a n c) = .p (.val (.slice a n c)) := rfl
theorem cv_string (s : ByteArray) : cv (.string s) = .p (.val (.string s)) := rfl
theorem cv_ptr (a : Option Addr) : cv (.pointer a) = .p (.val (.pointer a)) := rfl
theorem get_mk (fr : List (Nat × AV)) (hp : Hp) (n N t : Nat) : ASt.get ⟨fr, hp, n, N⟩ t = (fr.lookup t).getD .junk := rfl
theorem put_some (fr : List (Nat × AV)) (hp : Hp) (n N t : Nat) (x : AV) : ASt.put ⟨fr, hp, n, N⟩ (some t) x = ⟨(t, x) :: fr, hp, n, N⟩ := rfl
theorem put_none (s : ASt) (x : AV) : ASt.put s none x = s := rfl
theorem lk_nil {α : Type} (t : Nat) : List.lookup t ([] : List (Nat × α)) = none := rfl
theorem lk_cons {α : Type} (t k : Nat) (x : α) (l : List (Nat × α)) : List.lookup t ((k, x) :: l) = if t = k then some x else List.lookup t l := by
  by_cases h : t = k
  · subst h; simp
  · have : (t == k) = false := by simpa using h
    rw [List.lookup_cons, this, if_neg h]
theorem ite_bool_or (b c : Bool) : (if b = true then AV.p (.val (.bool true)) else AV.p (.val (.bool c))) = AV.p (.val (.bool (b || c))) := by cases b <;> rfl
theorem ite_bool_and (b c : Bool) : (if b = true then AV.p (.val (.bool c)) else AV.p (.val (.bool false))) = AV.p (.val (.bool (b && c))) := by cases b <;> rfl
theorem ite_same_t {α : Type} (b : Bool) (x y z : α) : (if b = true then (if b = true then x else y) else z) = if b = true then x else z := by cases b <;> rfl
theorem ite_same_f {α : Type} (b : Bool) (x y z : α) : (if b = true then x else (if b = false then y else z)) = if b = true then x else y := by cases b <;> rfl
theorem AV.sub_p (t : Nat) (y : AV) (x : PV) : AV.sub t y (.p x) = .p x := by simp [AV.sub]
theorem AV.sub_elt (t : Nat) (y : AV) (r : List PV) (k : Nat) : AV.sub t y (.elt r k) = .elt r k := by simp [AV.sub]
theorem AV.sub_ptr (t : Nat) (y : AV) (k j : Nat) : AV.sub t y (.ptr k j) = if k = t then .junk else .ptr k j := by simp [AV.sub]
theorem AV.sub_rptr (t : Nat) (y : AV) (k n i j : Nat) : AV.sub t y (.rptr k n i j) = if k = t then .junk else .rptr k n i j := by simp [AV.sub]
theorem AV.sub_own (t : Nat) (y : AV) (k : Nat) : AV.sub t y (.own k) = if k = t then y else .own k := by simp [AV.sub]
theorem AV.sub_pre (t : Nat) (y : AV) (k m : Nat) : AV.sub t y (.pre k m) = if k = t then .junk else .pre k m := by simp [AV.sub]
theorem AV.sub_junk (t : Nat) (y : AV) : AV.sub t y .junk = .junk := by simp [AV.sub]
theorem AV.sub_cap0 (t : Nat) (y : AV) : AV.sub t y .cap0 = .cap0 := by simp [AV.sub]
theorem ml_1 : (1 ≤ maxLen) = True := eq_true (by decide)
theorem ml_2 : (2 ≤ maxLen) = True := eq_true (by decide)
theorem ml_3 : (3 ≤ maxLen) = True := eq_true (by decide)
theorem ml_7 : (7 ≤ maxLen) = True := eq_true (by decide)
theorem ml_21 : (21 ≤ maxLen) = True := eq_true (by decide)
theorem wrap_ok {x : Int} (h0 : -9223372036854775808 ≤ x) (h1 : x ≤ 9223372036854775807) : IntKind.i64.wrap x = x := by rw [IntKind.wrap_i64]; omega
theorem AVle_refl (x : AV) : AVle x x = True := eq_true (AVle.refl x)
theorem AVle_nil (n : Nat) : AVle (.p (.val (.slice none 0 0))) (.p (.seq n [])) = True := eq_true (AVle.nil n)
theorem AVle_junk (x : AV) : AVle x .junk = True := eq_true (AVle.junk x)
theorem AVle_int (k : IntKind) (a b : Int) : AVle (.p (.val (.int k a))) (.p (.val (.int k b))) = (a = b) := propext ⟨fun h => by
  have h1 := h 0 (fun _ => False) (fun _ => none) default (.int k a) (.of_val _ rfl)
  have := h1.val
  cases this; rfl, fun h => h ▸ AVle.refl _⟩
theorem AVle_bool (a b : Bool) : AVle (.p (.val (.bool a))) (.p (.val (.bool b))) = (a = b) := propext ⟨fun h => by
  have h1 := h 0 (fun _ => False) (fun _ => none) default (.bool a) (.of_val _ rfl)
  have := h1.val
  cases this; rfl, fun h => h ▸ AVle.refl _⟩
theorem AVle_seq {n : Nat} {a b : List (List PV)} (h : a = b) : AVle (.p (.seq n a)) (.p (.seq n b)) = True := by subst h; exact AVle_refl _
theorem Weak.of' {s s' : ASt} (hn : s'.n = s.n) (h : (∀ p ∈ s'.fr, AVle (s.get p.1) p.2) ∧ (∀ p ∈ s'.hp, s.hp.lookup p.1 = some p.2) ∧ s'.okB = true) : Weak s s' := Weak.of hn h.1 h.2.1 h.2.2
theorem Ent.of {P : Program} {f : FuncId} {fn : Func} {c : Code} (hf : P.funcs[f]? = some fn) (hname : (fn.name == "runtime.NumGoroutine") = false) (hb : fn.body = some c) : Ent P f := fun args w => by
  have h1 : fn.name ≠ "runtime.NumGoroutine" := by simpa using hname
  simp [callFunc, hf, h1, hb, mark]
theorem wrap_succ {k : Nat} (h : k < 1152921504606846976) : IntKind.i64.wrap ((k : Int) + 1) = ((k + 1 : Nat) : Int) := by rw [IntKind.wrap_i64]; omega
theorem FinA.ret {P : Program} {fn : Func} {r : AV} {s : ASt} {e : Exit} (he : e = .normal ∨ e = .ret) {rs : Array ResultVar} (hrs : fn.results = rs) (h : ares P s rs.toList = some r) : FinA P fn r e s := ⟨he, s, Weak.refl _, by rw [hrs]; exact h⟩
theorem FinA.retW {P : Program} {fn : Func} {r : AV} {s s' : ASt} {e : Exit} (he : e = .normal ∨ e = .ret) {rs : Array ResultVar} (hrs : fn.results = rs) (hw : Weak s s') (h : ares P s' rs.toList = some r) : FinA P fn r e s := ⟨he, s', hw, by rw [hrs]; exact h⟩
end Go.Proofs.Ytbhkcejjehgfcaa
