/- The given memory that holds the words of a list of entries: contracts. -/
import Derived.Test.YtioajmhfofmdoaaDo
import Derived.Test.YtioajmhfofmdoaaNw
import Derived.Test.YtioajmhfofmdoaaPl
namespace Go.Proofs.Ytioajmhfofmdoaa
open Go.RowKit Go.Sort Go.Maps

def Holds (T : Nat → Prop) (B : Nat) (w : World) (bm bp tk n : Nat) (l : List Ent) : Prop := ∃ D M, MemAt T B w bm bp tk n D M ∧ Rel M l
theorem Holds.gw {T : Nat → Prop} {B : Nat} {w : World} {bm bp tk n : Nat} {l : List Ent} (h : Holds T B w bm bp tk n l) (q : Regrown) : Holds T B (gw w q) bm bp tk n l := by
  obtain ⟨D, M, h1, h2⟩ := h
  exact ⟨D, M, h1.gw q, h2⟩
theorem Holds.below {T : Nat → Prop} {B : Nat} {w w' : World} {bm bp tk n : Nat} {l : List Ent} (h : Holds T B w bm bp tk n l) (hb : Below w.heap.size w w') : Holds T B w' bm bp tk n l := by
  obtain ⟨q, rfl⟩ := gw_of_below hb
  exact h.gw q
theorem Holds.isMap {T : Nat → Prop} {B : Nat} {w : World} {bm bp tk n : Nat} {l : List Ent} (h : Holds T B w bm bp tk n l) : ∃ es ck, w.heap[bp]? = some (.map es ck) := by
  obtain ⟨D, M, h1, _⟩ := h
  obtain ⟨es, ck, hb, _⟩ := h1.own
  exact ⟨es, ck, hb⟩
theorem Holds.le {T : Nat → Prop} {B : Nat} {w : World} {bm bp tk n : Nat} {l : List Ent} (h : Holds T B w bm bp tk n l) : B ≤ w.heap.size := by
  obtain ⟨D, M, h1, _⟩ := h
  have := h1.mine.1
  have := (Array.getElem?_eq_some_iff.1 h1.cell).1
  omega
theorem Fr.row {tk bp : Nat} {w w' : World} (h : Fr tk bp w w') {es : Array MapEntry} {ck : Nat} (hbp : w.heap[bp]? = some (.map es ck)) {k : Nat} {c : Array Value} {ty : TypeId} {z : Nat × Nat} (hk : w.heap[k]? = some (.cells c ty z)) (hne : ty ≠ 70) : w'.heap[k]? = some (.cells c ty z) := by
  refine (h.block k (Array.getElem?_eq_some_iff.1 hk).1 (fun e => ?_) fun m e => ?_).trans hk
  · rw [e, hbp] at hk; cases hk
  · rw [hk] at e
    simp only [Option.some.injEq, Obj.cells.injEq] at e
    exact hne e.2.1

theorem newH_any (w : World) : Calls Try.prog 10 #[] w fun e w' => ∃ bm bp tk, e = .returned (.pointer (some ⟨bm, 0, none⟩)) ∧ Below w.heap.size w w' ∧ Holds (· = tk) w.heap.size w' bm bp tk 0 [] := by
  refine (newL_any w).mono ?_
  rintro e w' ⟨bm, bp, tk, rfl, hb, hm⟩
  exact ⟨bm, bp, tk, rfl, hb, _, _, hm, rel_nil⟩
abbrev ChPost (T : Nat → Prop) (B : Nat) (w : World) (bm bp tk n : Nat) (l' : List Ent) (e : Ending) (w' : World) : Prop :=
  e = .returned (.tuple #[]) ∧ ∃ n', n' ≤ n + 1 ∧ Holds T B w' bm bp tk n' l' ∧ Fr tk bp w w' ∧ Below B w w'
theorem setH_any {T : Nat → Prop} {B : Nat} {w : World} {bm bp tk n : Nat} {l : List Ent} (h : Holds T B w bm bp tk n l) (o f : Int) (x : Wd) (ho : I64 o) (hf : I64 f) (hn : n ≤ 1000) :
    Calls Try.prog 23 #[.pointer (some ⟨bm, 0, none⟩), locv o f, wv x] w (ChPost T B w bm bp tk n (setM l o f x)) := by
  have hle := h.le
  obtain ⟨D, M, h1, h2⟩ := h
  by_cases hu : usM o f = true
  · have hu2 : 0 ≤ o ∧ 0 ≤ f := by simpa [usM] using hu
    have HS := setIn_any h1 o (f / 16).toNat (f % 16).toNat x (by omega) ⟨hu2.1, ho.2⟩ (by omega) hn
    rw [show (((f / 16).toNat : Int) * 16 + ((f % 16).toNat : Int)) = f by omega, show (((f / 16).toNat * 16 + (f % 16).toNat : Nat) : Int) = f by omega] at HS
    refine HS.mono ?_
    rintro e w1 ⟨rfl, n', D', M2, a1, a2, a3, a4, a5⟩
    exact ⟨rfl, n', a1, ⟨D', M2, a2, rel_set h2 (by omega) a3⟩, a4, a5⟩
  · have hu' : usM o f = false := by simpa using hu
    have hset : setM l o f x = l := by
      unfold setM
      rw [if_pos]
      have : ¬ (0 ≤ o ∧ 0 ≤ f) := by simpa [usM] using hu
      omega
    refine (setOut_any bm o f x w hu').mono ?_
    rintro e w1 ⟨rfl, q, rfl⟩
    exact ⟨rfl, n, by omega, ⟨D, M, h1.gw q, by rw [hset]; exact h2⟩, Fr.of_below (gw_below w q), (gw_below w q).mono hle⟩
theorem get_out {l : List Ent} (hg : Good l) {o f : Int} (h : usM o f = false) : getM l o f = wz := by
  refine get_none fun e he => ?_
  cases hi : isLoc e o f with
  | false => rfl
  | true =>
    have h1 := isLoc_iff.1 hi
    have h2 := hg.usable e he
    rw [h1.1, h1.2] at h2
    simp [usM] at h
    omega
theorem getH_any {T : Nat → Prop} {B : Nat} {w : World} {bm bp tk n : Nat} {l : List Ent} (h : Holds T B w bm bp tk n l) (hg : Good l) (o f : Int) (ho : I64 o) (hf : I64 f) :
    Calls Try.prog 13 #[.pointer (some ⟨bm, 0, none⟩), locv o f] w (Gives (wv (getM l o f)) w) := by
  obtain ⟨D, M, h1, h2⟩ := h
  by_cases hu : usM o f = true
  · have hu2 : 0 ≤ o ∧ 0 ≤ f := by simpa [usM] using hu
    have HS := getIn_any h1 o (f / 16).toNat (f % 16).toNat (by omega) ⟨hu2.1, ho.2⟩ (by omega)
    rw [show (((f / 16).toNat : Int) * 16 + ((f % 16).toNat : Int)) = f by omega, show (((f / 16).toNat * 16 + (f % 16).toNat : Nat) : Int) = f by omega, h2 o f hu2.1 hu2.2] at HS
    exact HS
  · have hu' : usM o f = false := by simpa using hu
    rw [get_out hg hu']
    exact getOut_any _ o f w hu' bm rfl
theorem pagesH_any {T : Nat → Prop} {B : Nat} {w : World} {bm bp tk n : Nat} {l : List Ent} (h : Holds T B w bm bp tk n l) (hg : Good l) (hf : Fits l) :
    Calls Try.prog 16 #[.pointer (some ⟨bm, 0, none⟩)] w (Gives (.int .i64 (pagesK l l.length)) w) := by
  obtain ⟨D, M, h1, h2⟩ := h
  rw [← size_pages h1 h2 hg hf]
  exact pagesL_any h1
theorem doH_any {T : Nat → Prop} {B : Nat} {w : World} {bm bp tk n : Nat} {l : List Ent} (h : Holds T B w bm bp tk n l) (o f : Int) (x : Wd) (d : Bool) (ho : I64 o) (hf : I64 f) (hn : n ≤ 1000) :
    Calls Try.prog 11 #[.pointer (some ⟨bm, 0, none⟩), opv o f x d] w (ChPost T B w bm bp tk n (doM l (chOf o f x d))) := by
  obtain ⟨D, M, h1, h2⟩ := h
  refine (doL_any h1 h2 o f x d ho hf hn).mono ?_
  rintro e w' ⟨rfl, n', D', M', a1, a2, a3, a4, a5⟩
  exact ⟨rfl, n', a1, ⟨D', M', a2, a3⟩, a4, a5⟩
theorem clearH_any {T : Nat → Prop} {B : Nat} {w : World} {bm bp tk n : Nat} {l : List Ent} (h : Holds T B w bm bp tk n l) (ob : Int) :
    Calls Try.prog 18 #[.pointer (some ⟨bm, 0, none⟩), .int .i64 ob] w (ChPost T B w bm bp tk n (clearM l ob)) := by
  obtain ⟨D, M, h1, h2⟩ := h
  refine (clearL_any h1 ob).mono ?_
  rintro e w' ⟨rfl, D', a2, a4, a5⟩
  exact ⟨rfl, n, by omega, ⟨D', _, a2, rel_clear h2 ob⟩, a4, a5⟩

theorem fits_do {l : List Ent} (h : Fits l) (o f : Int) (x : Wd) (d : Bool) (ho : I64 o) (hf : I64 f) : Fits (doM l (chOf o f x d)) := by
  cases d
  · exact fits_set h x ho.2 hf.2
  · exact fits_clear h o
theorem good_do {l : List Ent} (h : Good l) (o f : Int) (x : Wd) (d : Bool) : Good (doM l (chOf o f x d)) := by
  cases d
  · exact good_set h o f x
  · exact good_clear h o
theorem setGo_len (o f : Int) (x : Wd) : ∀ (l : List Ent) (d : Bool), (setGo o f x l d).length ≤ l.length + if d then 0 else 1
  | [], d => by cases d <;> simp [setGo]
  | a :: r, d => by
    have ih := setGo_len o f x r (d || lessM o f a.1 a.2.1)
    simp only [setGo, List.length_append, List.length_cons]
    cases d <;> cases hl : lessM o f a.1 a.2.1 <;> cases hi : isLoc a o f <;> simp [hl] at ih ⊢ <;> omega
theorem do_len {l : List Ent} (o f : Int) (x : Wd) (d : Bool) : (doM l (chOf o f x d)).length ≤ l.length + 1 := by
  cases d
  · show (setM l o f x).length ≤ _
    unfold setM
    split
    · omega
    · have := setGo_len o f x l (zeroM x)
      split at this <;> omega
  · show (clearM l o).length ≤ _
    have := List.length_filter_le (fun e : Ent => !(e.1 == o)) l
    unfold clearM; omega

end Go.Proofs.Ytioajmhfofmdoaa
