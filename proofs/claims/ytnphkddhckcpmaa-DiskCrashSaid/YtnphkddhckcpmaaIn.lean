/-
  What comes in, opened: from a reading of an argument as data to the predicates of the walks (bytes, rows of bytes, numbers, arrays of numbers). No statement about the program.
-/
import Derived.Test.YtnphkddhckcpmaaMem
import Derived.ProofKit
import Derived.OpenShut
import Derived.Deep.Slices
import Derived.Lib.SmallJoins
namespace Go.Proofs.Ytnphkddhckcpmaa
open Go.RowKit Go.WideShapes

/-- The slice value v reads as these rows of bytes. -/
def BRows (w : World) (v : Value) (ls : List (List UInt8)) : Prop :=
  ∃ vs : List Value, Cells w v vs ∧ vs.length = ls.length ∧ ∀ (i : Nat) (u : Value) (l : List UInt8), vs[i]? = some u → ls[i]? = some l → Bytes w u l
theorem BRows.ext {w w' : World} {v : Value} {ls : List (List UInt8)} (h : BRows w v ls) (hx : Ext w w') : BRows w' v ls := by
  obtain ⟨vs, h1, h2, h3⟩ := h
  exact ⟨vs, h1.ext hx, h2, fun i u l hu hl => (h3 i u l hu hl).ext hx⟩
/-- The slice value v reads as these numbers of kind int. -/
abbrev ivs (l : List Int) : List Value := l.map (Value.int .i64)
abbrev Ints (w : World) (v : Value) (l : List Int) : Prop := Cells w v (ivs l)

section
variable {H : Type} {enc : TypeId × Value → H} {P : Program} {w : World} {base : Nat} {spare : Nat → Bool} {held : Bool}

theorem cells_one {a : Addr} {cs : List Value} (h : w.cells? base a 1 = some cs) : ∃ u, cs = [u] ∧ w.cell? a = some u := by
  unfold World.cells? at h
  split at h
  · have h0 : a.add 0 = a := by simp [Addr.add]
    simp only [List.range_one, List.mapM_cons, List.mapM_nil, h0] at h
    cases hc : w.cell? a with
    | none => rw [hc] at h; cases h
    | some u =>
      rw [hc] at h
      simp at h
      exact ⟨u, h.symm, rfl⟩
  · cases h

/-- A slice whose elements are one cell each. -/
theorem in_slice {t e : TypeId} (ht : P.underlying t = some (.slice e)) (hc : P.cellsOf e = 1) {fuel : Nat} {cs : List Value} {x : DataW H × List MemPlace}
    (h : DataW.trod enc P w base spare held fuel t cs = some x) :
    ∃ v vs m, cs = [v] ∧ Cells w v vs ∧ vs.length ≤ maxLen ∧ ∀ (i : Nat) (u : Value), vs[i]? = some u → ∃ y, DataW.trod enc P w base spare held m e [u] = some y := by
  rcases Go.Deep.open_slice ht h with ⟨rfl, _⟩ | ⟨a, len, cap, m, n, D, Pl, rfl, _, hl, hcap, hm, _, hel⟩
  · exact ⟨_, [], 0, rfl, Cells.nil w, by simp, by simp⟩
  · have hlm : len ≤ m := by rw [hm]; split <;> omega
    obtain ⟨f, hf⟩ := Go.Deep.choose_lt (α := Value) (n := len) (p := fun i u => w.cell? (a.add i) = some u ∧ ∃ y, DataW.trod enc P w base spare held n e [u] = some y)
      (fun i hi => by
        obtain ⟨cs', h1, h2⟩ := hel i (by omega)
        rw [hc, Nat.mul_one] at h1
        obtain ⟨u, rfl, hu⟩ := cells_one h1
        exact ⟨u, hu, _, h2⟩)
    refine ⟨_, (List.range len).map f, n, rfl, ⟨some a, cap, by simp, by simpa using hl, (fun h => by cases h), fun j u hu => ?_⟩, by simp; omega, fun i u hu => ?_⟩
    · have hj : j < len := by have := (List.getElem?_eq_some_iff.1 hu).1; simpa using this
      simp [hj] at hu
      exact ⟨a, rfl, by rw [← hu]; exact (hf j hj).1⟩
    · have hj : i < len := by have := (List.getElem?_eq_some_iff.1 hu).1; simpa using this
      simp [hj] at hu
      rw [← hu]; exact (hf i hj).2

theorem list_choose {α β : Type} {p : α → β → Prop} : ∀ (l : List α), (∀ (i : Nat) (u : α), l[i]? = some u → ∃ y, p u y) → ∃ k : List β, k.length = l.length ∧ ∀ (i : Nat) (u : α) (y : β), l[i]? = some u → k[i]? = some y → p u y
  | [], _ => ⟨[], rfl, by simp⟩
  | a :: l, h => by
    obtain ⟨y, hy⟩ := h 0 a rfl
    obtain ⟨k, hk, hp⟩ := list_choose l (fun i u hu => h (i + 1) u (by simpa using hu))
    refine ⟨y :: k, by simp [hk], fun i u z hu hz => ?_⟩
    cases i with
    | zero => simp at hu hz; subst hu hz; exact hy
    | succ i => exact hp i u z (by simpa using hu) (by simpa using hz)

theorem in_bytes {t e : TypeId} (ht : P.underlying t = some (.slice e)) (he : P.underlying e = some (.int .u8)) (hc : P.cellsOf e = 1) {fuel : Nat} {cs : List Value} {x : DataW H × List MemPlace}
    (h : DataW.trod enc P w base spare held fuel t cs = some x) : ∃ v l, cs = [v] ∧ Bytes w v l ∧ l.length ≤ maxLen := by
  obtain ⟨v, vs, m, rfl, h1, h2, h3⟩ := in_slice ht hc h
  obtain ⟨l, hl, hp⟩ := list_choose (p := fun (u : Value) (y : UInt8) => u = bv y) vs (fun i u hu => by
    obtain ⟨y, hy⟩ := h3 i u hu
    obtain ⟨n, e1, _, hw⟩ := DataW.trod_int he hy
    obtain ⟨z, rfl⟩ := u8_of_wf hw
    simp at e1
    exact ⟨z, e1⟩)
  have : vs = bvs l := by
    apply List.ext_getElem?
    intro i
    cases hv : vs[i]? with
    | none => rw [List.getElem?_eq_none_iff] at hv; rw [List.getElem?_eq_none (by rw [bvs_len]; omega)]
    | some u =>
      have hi : i < l.length := by have := (List.getElem?_eq_some_iff.1 hv).1; omega
      rw [hp i u l[i] hv (List.getElem?_eq_getElem hi), bvs_get hi]
  rw [this] at h1 h2
  rw [bvs_len] at h2
  exact ⟨v, l, rfl, h1, h2⟩

theorem in_rows {t b e : TypeId} (ht : P.underlying t = some (.slice b)) (hb : P.underlying b = some (.slice e)) (he : P.underlying e = some (.int .u8)) (hcb : P.cellsOf b = 1) (hc : P.cellsOf e = 1) {fuel : Nat} {cs : List Value} {x : DataW H × List MemPlace}
    (h : DataW.trod enc P w base spare held fuel t cs = some x) : ∃ v ls, cs = [v] ∧ BRows w v ls ∧ ls.length ≤ maxLen ∧ ∀ l ∈ ls, l.length ≤ maxLen := by
  obtain ⟨v, vs, m, rfl, h1, h2, h3⟩ := in_slice ht hcb h
  obtain ⟨ls, hl, hp⟩ := list_choose (p := fun (u : Value) (l : List UInt8) => Bytes w u l ∧ l.length ≤ maxLen) vs (fun i u hu => by
    obtain ⟨y, hy⟩ := h3 i u hu
    obtain ⟨v', l, e1, h4, h5⟩ := in_bytes hb he hc hy
    simp at e1
    subst e1
    exact ⟨l, h4, h5⟩)
  refine ⟨v, ls, rfl, ⟨vs, h1, hl.symm, fun i u l hu hl' => (hp i u l hu hl').1⟩, by omega, fun l hm => ?_⟩
  obtain ⟨i, hi⟩ := List.getElem?_of_mem hm
  have : i < vs.length := by have := (List.getElem?_eq_some_iff.1 hi).1; omega
  exact (hp i _ l (List.getElem?_eq_getElem this) hi).2

theorem in_ints {t e : TypeId} (ht : P.underlying t = some (.slice e)) (he : P.underlying e = some (.int .i64)) (hc : P.cellsOf e = 1) {fuel : Nat} {cs : List Value} {x : DataW H × List MemPlace}
    (h : DataW.trod enc P w base spare held fuel t cs = some x) : ∃ v l, cs = [v] ∧ Ints w v l ∧ l.length ≤ maxLen ∧ ∀ z ∈ l, (Lit.int .i64 z).wf = true := by
  obtain ⟨v, vs, m, rfl, h1, h2, h3⟩ := in_slice ht hc h
  obtain ⟨l, hl, hp⟩ := list_choose (p := fun (u : Value) (y : Int) => u = .int .i64 y ∧ (Lit.int .i64 y).wf = true) vs (fun i u hu => by
    obtain ⟨y, hy⟩ := h3 i u hu
    obtain ⟨n, e1, _, hw⟩ := DataW.trod_int he hy
    simp at e1
    exact ⟨n, e1, hw⟩)
  have : vs = ivs l := by
    apply List.ext_getElem?
    intro i
    cases hv : vs[i]? with
    | none => rw [List.getElem?_eq_none_iff] at hv; rw [List.getElem?_eq_none (by simp; omega)]
    | some u =>
      have hi : i < l.length := by have := (List.getElem?_eq_some_iff.1 hv).1; omega
      rw [(hp i u l[i] hv (List.getElem?_eq_getElem hi)).1]; simp [hi]
  refine ⟨v, l, rfl, by rw [this] at h1; exact h1, by omega, fun z hz => ?_⟩
  obtain ⟨i, hi⟩ := List.getElem?_of_mem hz
  have : i < vs.length := by have := (List.getElem?_eq_some_iff.1 hi).1; omega
  exact (hp i _ z (List.getElem?_eq_getElem this) hi).2

theorem okWide_array {r : Reach} {b0 n : Nat} {t e : TypeId} {v : Value} (ht : P.underlying t = some (.array n e)) (h : Value.okWide P w r b0 t v) : ∃ cs, v = .agg cs ∧ cs.size = P.cellsOf t := by
  simp only [Value.okWide, ht] at h
  obtain ⟨cs, h1, h2, _⟩ := h
  exact ⟨cs, h1, h2⟩
/-- An array of numbers, by value. -/
theorem in_array {r : Reach} {b0 n : Nat} {t e : TypeId} {k : IntKind} {v : Value} {d : DataW H} {p : List MemPlace} (ht : P.underlying t = some (.array n e)) (he : P.underlying e = some (.int k)) (hc : P.cellsOf e = 1) (hn : P.cellsOf t = n)
    (hv : Value.okWide P w r b0 t v) (h : DataW.Trod enc P w base spare held t v d p) :
    ∃ l : List Int, l.length = n ∧ v = .agg (l.map (Value.int k)).toArray ∧ ∀ z ∈ l, (Lit.int k z).wf = true := by
  obtain ⟨cs, rfl, hs⟩ := okWide_array ht hv
  obtain ⟨fuel, hf⟩ := h
  obtain ⟨xs, m, _, _, h1, h2, h3⟩ := DataW.trod_array ht hf
  rw [hn] at hs
  have key : ∀ (i : Nat) (u : Value), cs.toList[i]? = some u → ∃ y : Int, u = .int k y ∧ (Lit.int k y).wf = true := by
    intro i u hu
    have hi : i < n := by have := (List.getElem?_eq_some_iff.1 hu).1; simp at this; omega
    have h4 := h3 i hi
    rw [hc, Nat.mul_one] at h4
    have hu' : ((Value.agg cs).cells.toList.drop i).take 1 = [u] := by
      show (cs.toList.drop i).take 1 = [u]
      apply List.ext_getElem?
      intro j
      rw [List.getElem?_take]
      cases j with
      | zero => simpa using hu
      | succ j => simp
    rw [hu', List.getElem?_eq_getElem (by omega : i < xs.length)] at h4
    obtain ⟨z, e1, _, hw⟩ := DataW.trod_int he h4
    simp at e1
    exact ⟨z, e1, hw⟩
  obtain ⟨l, hl, hp⟩ := list_choose (p := fun (u : Value) (y : Int) => u = .int k y ∧ (Lit.int k y).wf = true) cs.toList key
  refine ⟨l, by rw [hl]; simpa using hs, ?_, fun z hz => ?_⟩
  · congr 1
    apply Array.ext_getElem?
    intro i
    rw [← Array.getElem?_toList]
    cases hv : cs.toList[i]? with
    | none =>
      rw [List.getElem?_eq_none_iff, ← hl] at hv
      simp [List.getElem?_eq_none hv]
    | some u =>
      have hi : i < l.length := by have := (List.getElem?_eq_some_iff.1 hv).1; omega
      rw [(hp i u l[i] hv (List.getElem?_eq_getElem hi)).1]; simp [hi]
  · obtain ⟨i, hi⟩ := List.getElem?_of_mem hz
    have : i < cs.toList.length := by have := (List.getElem?_eq_some_iff.1 hi).1; omega
    exact (hp i _ z (List.getElem?_eq_getElem this) hi).2
end
theorem list_two {α : Type} {l : List α} (h : l.length = 2) : ∃ a b, l = [a, b] := by
  match l, h with
  | [a, b], _ => exact ⟨a, b, rfl⟩
theorem list_three {α : Type} {l : List α} (h : l.length = 3) : ∃ a b c, l = [a, b, c] := by
  match l, h with
  | [a, b, c], _ => exact ⟨a, b, c, rfl⟩
theorem nat_of_wf16 {a : Int} (h : (Lit.int .u16 a).wf = true) : ∃ x : Nat, a = (x : Int) ∧ x < 65536 := by
  simp [Lit.wf] at h
  have h1 := h.1
  have h2 := h.2
  simp [IntKind.max, IntKind.min, IntKind.signed, IntKind.bits] at h1 h2
  exact ⟨a.toNat, by omega, by omega⟩
theorem nat_of_wf32 {a : Int} (h : (Lit.int .u32 a).wf = true) : ∃ x : Nat, a = (x : Int) ∧ x < 4294967296 := by
  simp [Lit.wf] at h
  have h1 := h.1
  have h2 := h.2
  simp [IntKind.max, IntKind.min, IntKind.signed, IntKind.bits] at h1 h2
  exact ⟨a.toNat, by omega, by omega⟩
theorem int_of_wf {a : Int} (h : (Lit.int .i64 a).wf = true) : -9223372036854775808 ≤ a ∧ a ≤ 9223372036854775807 := by
  simp [Lit.wf] at h
  have h1 := h.1
  have h2 := h.2
  simp [IntKind.min, IntKind.signed, IntKind.bits] at h1 h2
  omega
end Go.Proofs.Ytnphkddhckcpmaa
