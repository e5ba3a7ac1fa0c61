/-
  A list of rows that grows by append, the rows the call's own and no two in one block: what may be written in place, and swapped. No statement about the program.
-/
import Derived.Test.YtdmdcgcmappliaaRowApp
namespace Go.Proofs.Ytdmdcgcmappliaa
open Go.RowKit
set_option maxRecDepth 100000
set_option maxHeartbeats 1000000

/-- The rows vs of the list v: all in blocks from B on and below T, no two in one. -/
structure RAs (w : World) (B T : Nat) (v : Value) (vs : List Value) (ls : List (List UInt8)) : Prop where
  len : vs.length = ls.length
  list : Own w B 34 v vs
  top : ∀ q, v.ownBlock = some q → q < T
  row : ∀ (i : Nat) (u : Value) (l : List UInt8), vs[i]? = some u → ls[i]? = some l → Own w B 5 u (bvs l) ∧ (u.ownBlock = none ∨ u.ownBlock ≠ v.ownBlock) ∧ ∀ q, u.ownBlock = some q → q < T
  apart : ∀ (i j : Nat) (u x : Value), i ≠ j → vs[i]? = some u → vs[j]? = some x → u.ownBlock = none ∨ u.ownBlock ≠ x.ownBlock
def RA (w : World) (B T : Nat) (v : Value) (ls : List (List UInt8)) : Prop := ∃ vs, RAs w B T v vs ls
theorem RA.nil (w : World) (B T : Nat) : RA w B T (.slice none 0 0) [] := ⟨[], rfl, Own.nil _ _ _, (fun _ h => by cases h), (by simp), (by simp)⟩
theorem RAs.mono {w : World} {B B' T T' : Nat} {v : Value} {vs : List Value} {ls : List (List UInt8)} (h : RAs w B T v vs ls) (hB : B' ≤ B) (hT : T ≤ T') : RAs w B' T' v vs ls :=
  ⟨h.len, h.list.mono hB, fun q hq => by have := h.top q hq; omega, fun i u l hu hl => let ⟨a, b, c⟩ := h.row i u l hu hl; ⟨a.mono hB, b, fun q hq => by have := c q hq; omega⟩, h.apart⟩
theorem RA.mono {w : World} {B B' T T' : Nat} {v : Value} {ls : List (List UInt8)} (h : RA w B T v ls) (hB : B' ≤ B) (hT : T ≤ T') : RA w B' T' v ls := let ⟨vs, k⟩ := h; ⟨vs, k.mono hB hT⟩
theorem RAs.ext {w w' : World} {B T : Nat} {v : Value} {vs : List Value} {ls : List (List UInt8)} (h : RAs w B T v vs ls) (hx : Ext w w') : RAs w' B T v vs ls :=
  ⟨h.len, h.list.ext hx, h.top, fun i u l hu hl => let ⟨a, b, c⟩ := h.row i u l hu hl; ⟨a.ext hx, b, c⟩, h.apart⟩
theorem RA.ext {w w' : World} {B T : Nat} {v : Value} {ls : List (List UInt8)} (h : RA w B T v ls) (hx : Ext w w') : RA w' B T v ls := let ⟨vs, k⟩ := h; ⟨vs, k.ext hx⟩
theorem RAs.grown {w w' : World} {B T : Nat} {v : Value} {vs : List Value} {ls : List (List UInt8)} (h : RAs w B T v vs ls) {r : Option Nat} (hg : w.grownBy w' r) (hr : ∀ q, r = some q → q < B ∨ T ≤ q) : RAs w' B T v vs ls := by
  have key : ∀ (u : Value), (∀ q, u.ownBlock = some q → B ≤ q ∧ q < T) → u.ownBlock = none ∨ u.ownBlock ≠ r := fun u hu => by
    cases e : u.ownBlock with
    | none => exact .inl rfl
    | some q =>
      refine .inr fun h2 => ?_
      have h3 := hu q e
      have h4 := hr q h2.symm
      omega
  refine ⟨h.len, h.list.keep hg (key v fun q hq => ⟨h.list.block q hq, h.top q hq⟩), h.top, fun i u l hu hl => ?_, h.apart⟩
  obtain ⟨a, b, c⟩ := h.row i u l hu hl
  exact ⟨a.keep hg (key u fun q hq => ⟨a.block q hq, c q hq⟩), b, c⟩
theorem RA.grown {w w' : World} {B T : Nat} {v : Value} {ls : List (List UInt8)} (h : RA w B T v ls) {r : Option Nat} (hg : w.grownBy w' r) (hr : ∀ q, r = some q → q < B ∨ T ≤ q) : RA w' B T v ls := let ⟨vs, k⟩ := h; ⟨vs, k.grown hg hr⟩
/-- What is written elsewhere. -/
theorem RAs.off {w : World} {B T : Nat} {v : Value} {vs : List Value} {ls : List (List UInt8)} (h : RAs w B T v vs ls) {p : Addr} (hp : p.block < B ∨ T ≤ p.block) (u : Value) : RAs (w.setCell p u) B T v vs ls := by
  refine ⟨h.len, h.list.set_other (fun e => ?_) u, h.top, fun i x l hx hl => ?_, h.apart⟩
  · have := h.list.block _ e
    have := h.top _ e
    omega
  · obtain ⟨a, b, c⟩ := h.row i x l hx hl
    refine ⟨a.set_other (fun e => ?_) u, b, c⟩
    have := a.block _ e
    have := c _ e
    omega
theorem RA.off {w : World} {B T : Nat} {v : Value} {ls : List (List UInt8)} (h : RA w B T v ls) {p : Addr} (hp : p.block < B ∨ T ≤ p.block) (u : Value) : RA (w.setCell p u) B T v ls := let ⟨vs, k⟩ := h; ⟨vs, k.off hp u⟩
theorem RA.form {w : World} {B T : Nat} {v : Value} {ls : List (List UInt8)} (h : RA w B T v ls) : ∃ a c, v = .slice a ls.length c := by
  obtain ⟨vs, h⟩ := h
  obtain ⟨a, c, e⟩ := h.list.slice
  exact ⟨a, c, by rw [e, h.len]⟩
theorem RA.rows {w : World} {B T : Nat} {v : Value} {ls : List (List UInt8)} (h : RA w B T v ls) : RowsOwn w B v ls := by
  obtain ⟨vs, h⟩ := h
  refine ⟨vs, h.list, h.len, fun i u l hu hl => ?_⟩
  obtain ⟨a, b, c⟩ := h.row i u l hu hl
  refine ⟨a.cells, ?_⟩
  rcases b with b | b
  · exact .inr (.inl b)
  · exact .inr (.inr b)
theorem RA.brows {w : World} {B T : Nat} {v : Value} {ls : List (List UInt8)} (h : RA w B T v ls) : BRows w v ls := h.rows.brows
theorem RA.open1 {w : World} {B T : Nat} {v : Value} {ls : List (List UInt8)} (h : RA w B T v ls) (h0 : 0 < ls.length) : ∃ g c, v = .slice (some ⟨g, 0, none⟩) ls.length c ∧ B ≤ g ∧ g < T ∧ ∀ i, w.frozen? ⟨g, i, none⟩ = false := by
  obtain ⟨vs, h⟩ := h
  rcases h.list.forms with ⟨_, h2⟩ | ⟨g, cap, cur, h1, h2, h3, _⟩
  · have := h.len; rw [h2] at this; simp at this; omega
  · exact ⟨g, cap, by rw [h1, h.len], h2, h.top g (by rw [h1]; rfl), fun i => h3.unfrozen i⟩
/-- The row that stands at i: its cell, its bytes; one byte of it, written. -/
theorem RA.row {w : World} {B T g n c : Nat} {ls : List (List UInt8)} (h : RA w B T (.slice (some ⟨g, 0, none⟩) n c) ls) {i : Nat} {l : List UInt8} (hl : ls[i]? = some l) (h0 : 0 < l.length) :
    ∃ b rc, w.cell? ⟨g, i, none⟩ = some (.slice (some ⟨b, 0, none⟩) l.length rc) ∧ B ≤ b ∧ b < T ∧ b ≠ g ∧ (∀ (j : Nat) (x : UInt8), l[j]? = some x → w.cell? ⟨b, j, none⟩ = some (bv x)) ∧ (∀ j, w.frozen? ⟨b, j, none⟩ = false) ∧
      ∀ (j : Nat) (x : UInt8), RA (w.setCell ⟨b, j, none⟩ (bv x)) B T (.slice (some ⟨g, 0, none⟩) n c) (ls.set i (l.set j x)) := by
  obtain ⟨vs, h⟩ := h
  have hlen := h.len
  have hi : i < vs.length := by have := (List.getElem?_eq_some_iff.1 hl).1; omega
  obtain ⟨u, hu⟩ : ∃ u, vs[i]? = some u := ⟨_, List.getElem?_eq_getElem hi⟩
  obtain ⟨a, b, t⟩ := h.row i u l hu hl
  have hp := h.list.parts
  rcases a.forms with ⟨_, h2⟩ | ⟨q, cap, cur, h1, h2, h3, h4, h5, h6, h7⟩
  · simp at h2; subst h2; simp at h0
  · rw [bvs_len] at h1
    subst h1
    have ap := a
    have := a.parts
    have hqg : q ≠ g := fun e => by
      rcases b with b | b
      · cases b
      · exact b (by rw [e]; rfl)
    refine ⟨q, cap, hp.2.2.2.2.2.1 i _ hu, h2, t q rfl, hqg, fun j x hx => this.2.2.2.2.2.1 j _ (by simp [hx]), this.2.2.2.2.2.2, fun j x => ⟨vs, by simp [hlen], h.list.set_other (fun e => hqg (Option.some.inj e).symm) _, h.top, fun k y m hy hm => ?_, h.apart⟩⟩
    rw [List.getElem?_set] at hm
    by_cases e : i = k
    · subst e
      rw [if_pos rfl, if_pos (by omega)] at hm
      rw [hu] at hy
      simp only [Option.some.injEq] at hm hy
      rw [← hy, ← hm]
      refine ⟨?_, b, t⟩
      have hst := a.set j (bv x)
      have e : (bvs l).set j (bv x) = bvs (l.set j x) := by simp [List.map_set]
      rw [e] at hst
      exact hst
    · rw [if_neg e] at hm
      obtain ⟨k1, k2, k3⟩ := h.row k y m hy hm
      refine ⟨k1.set_other ?_ _, k2, k3⟩
      rcases h.apart k i y _ (fun h => e h.symm) hy hu with a | a
      · rw [a]; exact fun h => by cases h
      · exact a
/-- Two rows lie in two blocks. -/
theorem RA.two {w : World} {B T g n c : Nat} {ls : List (List UInt8)} (h : RA w B T (.slice (some ⟨g, 0, none⟩) n c) ls) {i j : Nat} (hij : i ≠ j) {b b' n1 n2 c1 c2 : Nat} (hi : i < ls.length) (hj : j < ls.length)
    (h1 : w.cell? ⟨g, i, none⟩ = some (.slice (some ⟨b, 0, none⟩) n1 c1)) (h2 : w.cell? ⟨g, j, none⟩ = some (.slice (some ⟨b', 0, none⟩) n2 c2)) : b ≠ b' := by
  obtain ⟨vs, h⟩ := h
  have hlen := h.len
  have hp := h.list.parts
  have e1 := hp.2.2.2.2.2.1 i _ (List.getElem?_eq_getElem (by omega))
  have e2 := hp.2.2.2.2.2.1 j _ (List.getElem?_eq_getElem (by omega))
  rw [h1] at e1
  rw [h2] at e2
  have f1 : vs[i]? = some (.slice (some ⟨b, 0, none⟩) n1 c1) := by rw [List.getElem?_eq_getElem (by omega)]; exact e1.symm
  have f2 : vs[j]? = some (.slice (some ⟨b', 0, none⟩) n2 c2) := by rw [List.getElem?_eq_getElem (by omega)]; exact e2.symm
  rcases h.apart i j _ _ hij f1 f2 with a | a
  · cases a
  · exact fun e => a (by rw [e]; rfl)
/-- A row that is taken away. -/
theorem RA.drop {w : World} {B T g n c : Nat} {ls : List (List UInt8)} (h : RA w B T (.slice (some ⟨g, 0, none⟩) n c) ls) (i : Nat) : RA (w.setCell ⟨g, i, none⟩ (.slice none 0 0)) B T (.slice (some ⟨g, 0, none⟩) n c) (ls.set i []) := by
  obtain ⟨vs, h⟩ := h
  have hlen := h.len
  refine ⟨vs.set i (.slice none 0 0), by simp [hlen], h.list.set i _, h.top, fun k y m hy hm => ?_, fun j j' u u' hjj hu hu' => ?_⟩
  · rw [List.getElem?_set] at hy hm
    by_cases e : i = k
    · rw [if_pos e] at hy hm
      split at hy
      · rename_i hi
        rw [if_pos (by omega)] at hm
        simp only [Option.some.injEq] at hm hy
        rw [← hy, ← hm]
        exact ⟨Own.nil _ _ _, .inl rfl, fun q hq => by cases hq⟩
      · cases hy
    · rw [if_neg e] at hy hm
      obtain ⟨k1, k2, k3⟩ := h.row k y m hy hm
      refine ⟨k1.set_other ?_ _, k2, k3⟩
      rcases k2 with a | a
      · rw [a]; exact fun h => by cases h
      · exact a
  · rw [List.getElem?_set] at hu hu'
    by_cases e : i = j
    · rw [if_pos e] at hu
      split at hu
      · simp only [Option.some.injEq] at hu; subst hu; exact .inl rfl
      · cases hu
    · rw [if_neg e] at hu
      by_cases e2 : i = j'
      · rw [if_pos e2] at hu'
        split at hu'
        · simp only [Option.some.injEq] at hu'
          subst hu'
          cases hb : u.ownBlock with
          | none => exact .inl rfl
          | some b => exact .inr (by simp [Value.ownBlock])
        · cases hu'
      · rw [if_neg e2] at hu'
        exact h.apart j j' u u' hjj hu hu'
/-- Two rows that change their places. -/
theorem RA.swap {w : World} {B T g n c : Nat} {ls : List (List UInt8)} (h : RA w B T (.slice (some ⟨g, 0, none⟩) n c) ls) {i p : Nat} {u x : Value} {l k : List UInt8} (hi : w.cell? ⟨g, i, none⟩ = some u) (hp : w.cell? ⟨g, p, none⟩ = some x)
    (hl : ls[i]? = some l) (hk : ls[p]? = some k) : RA ((w.setCell ⟨g, i, none⟩ x).setCell ⟨g, p, none⟩ u) B T (.slice (some ⟨g, 0, none⟩) n c) ((ls.set i k).set p l) := by
  obtain ⟨vs, h⟩ := h
  have hlen := h.len
  have hil := (List.getElem?_eq_some_iff.1 hl).1
  have hpl := (List.getElem?_eq_some_iff.1 hk).1
  have hq := h.list.parts
  have e1 := hq.2.2.2.2.2.1 i _ (List.getElem?_eq_getElem (by omega))
  have e2 := hq.2.2.2.2.2.1 p _ (List.getElem?_eq_getElem (by omega))
  rw [hi] at e1
  rw [hp] at e2
  have f1 : vs[i]? = some u := by rw [List.getElem?_eq_getElem (by omega)]; exact e1.symm
  have f2 : vs[p]? = some x := by rw [List.getElem?_eq_getElem (by omega)]; exact e2.symm
  -- where each new one comes from
  have from_ : ∀ (j : Nat) (y : Value), ((vs.set i x).set p u)[j]? = some y → ∃ j', vs[j']? = some y ∧ (((ls.set i k).set p l)[j]? = ls[j']?) ∧ (j' = if p = j then i else if i = j then p else j) := fun j y hy => by
    rw [List.getElem?_set] at hy
    by_cases c1 : p = j
    · rw [if_pos c1, if_pos (by simp; omega)] at hy
      refine ⟨i, by rw [f1, ← hy], ?_, by rw [if_pos c1]⟩
      rw [List.getElem?_set, if_pos c1, if_pos (by simp; omega), hl]
    · rw [if_neg c1, List.getElem?_set] at hy
      by_cases c2 : i = j
      · rw [if_pos c2, if_pos (by omega)] at hy
        refine ⟨p, by rw [f2, ← hy], ?_, by rw [if_neg c1, if_pos c2]⟩
        rw [List.getElem?_set, if_neg c1, List.getElem?_set, if_pos c2, if_pos (by omega), hk]
      · rw [if_neg c2] at hy
        refine ⟨j, hy, ?_, by rw [if_neg c1, if_neg c2]⟩
        rw [List.getElem?_set, if_neg c1, List.getElem?_set, if_neg c2]
  refine ⟨(vs.set i x).set p u, by simp [hlen], (h.list.set i x).set p u, h.top, fun j y m hy hm => ?_, fun j j' y y' hjj hy hy' => ?_⟩
  · obtain ⟨j', h1, h2, -⟩ := from_ j y hy
    rw [h2] at hm
    obtain ⟨k1, k2, k3⟩ := h.row j' y m h1 hm
    have hne : y.ownBlock ≠ some g := by
      rcases k2 with a | a
      · rw [a]; exact fun h => by cases h
      · exact a
    exact ⟨(k1.set_other hne _).set_other hne _, k2, k3⟩
  · obtain ⟨q, h1, -, h3⟩ := from_ j y hy
    obtain ⟨q', h1', -, h3'⟩ := from_ j' y' hy'
    refine h.apart q q' y y' ?_ h1 h1'
    rw [h3, h3']
    intro e
    split at e <;> split at e <;> (try split at e) <;> (try split at e) <;> omega
/-- The i-th row's value and bytes. -/
theorem RA.at {w : World} {B T g n c : Nat} {ls : List (List UInt8)} (h : RA w B T (.slice (some ⟨g, 0, none⟩) n c) ls) {i : Nat} {l : List UInt8} (hl : ls[i]? = some l) : ∃ ra rc, w.cell? ⟨g, i, none⟩ = some (.slice ra l.length rc) ∧ Bytes w (.slice ra l.length rc) l := by
  obtain ⟨b, o, ra, rc, e, c1, hb⟩ := h.brows.at hl
  simp only [Option.some.injEq, Addr.mk.injEq, and_true] at e
  obtain ⟨rfl, rfl⟩ := e
  rw [Nat.zero_add] at c1
  exact ⟨ra, rc, c1, hb⟩

section
variable {W : World} {ops : Array Oper} {rest : List Oper} {o : Oper} {a : Act} {Q : Exit → Act → World → Prop} {K : Act → World → Prop}
/-- append of one row that was made behind all that there was in w0. -/
theorem wp_rowA (s x : Operand) (t : TypeId) (ho : o.op = .call { callee := .builtin .append, args := #[s, x], argTypes := #[t, t] }) (ht : Try.prog.underlying t = some (.slice 34))
    {w0 : World} {B T : Nat} {xa ua : Option Addr} {i xc n uc : Nat} {ls : List (List UInt8)} {l : List UInt8} {q : Nat} (hs : a.eval s = .slice xa i xc) (hx : a.eval x = .slice (some ⟨q, 0, none⟩) 1 1) (hq : q = W.heap.size)
    (hR : RA w0 B T (.slice xa i xc) ls) (h0 : Ext w0 W) (hu : Own W w0.heap.size 5 (.slice ua n uc) (bvs l)) (hT : T ≤ w0.heap.size) (hB : B ≤ w0.heap.size) (hlen : ls.length ≤ 70000)
    (hK : ∀ ad c w', RA w' B w'.heap.size (.slice ad (i + 1) c) (ls ++ [l]) → Below B W w' → K (a.put o.dst (.slice ad (i + 1) c)) w') : Oper.wp Try.prog o a (W.alloc (.cells #[.slice ua n uc] 34)) K Q := by
  subst hq
  have x6 : Ext W (W.alloc (.cells #[.slice ua n uc] 34)) := (Ext.refl W).alloc (Nat.le_refl _) _
  have hsrc : Cells (W.alloc (.cells #[.slice ua n uc] 34)) (.slice (some ⟨W.heap.size, 0, none⟩) 1 1) [.slice ua n uc] := (Own.new W 0 34 #[.slice ua n uc] (Nat.zero_le _) (by unfold maxLen; simp)).cells
  obtain ⟨vs, hRs⟩ := hR
  have hRx := hRs.ext (Ext.trans h0 x6)
  have hs0 := h0.size
  have hs1 := x6.size
  obtain ⟨a', c', e⟩ := hRx.list.slice
  simp only [Value.slice.injEq] at e
  obtain ⟨rfl, rfl, rfl⟩ := e
  refine wp_appx s x t t 34 (.slice none 0 0) 24 ho ht info_bytes rfl hs hRx.list hx (Cells.src ht hsrc (one_slice _ _ _)) (by simp [maxLen]; have := hRs.len; omega) (by simp; have := hRs.len; omega) (by omega) (vs.length + 1) (by simp) fun ad c w' ha => hK ad c w' ?_ ?_
  · obtain ⟨o1, o2, o3⟩ := ha
    have hsz : w0.heap.size ≤ w'.heap.size := by have := o2.size; omega
    have hu2 := hu.ext x6
    have hlb := fun q hq => hRs.top q hq
    have hvT : ∀ q, (Value.slice xa vs.length xc).ownBlock = some q → q < w0.heap.size := fun q hq => by have := hRs.top q hq; omega
    have huT : ∀ q, (Value.slice ua n uc).ownBlock = some q → w0.heap.size ≤ q ∧ q < (W.alloc (.cells #[.slice ua n uc] 34)).heap.size := fun q hq => World.ownsRow.lt hu2 q hq
    have hnew : ∀ q, (Value.slice ad (vs.length + 1) c).ownBlock = some q → q < w0.heap.size ∨ (W.alloc (.cells #[.slice ua n uc] 34)).heap.size ≤ q := fun q hq => by
      rcases o3 with o3 | ⟨r, o3, hr⟩
      · rw [o3] at hq; exact .inl (hvT q hq)
      · rw [o3] at hq; injection hq with hq; omega
    have hlt : ∀ (i : Nat) (y : Value), (vs ++ [Value.slice ua n uc])[i]? = some y → (i < vs.length ∧ vs[i]? = some y) ∨ (i = vs.length ∧ y = .slice ua n uc) := fun i y hy => by
      by_cases hi : i < vs.length
      · rw [List.getElem?_append_left hi] at hy; exact .inl ⟨hi, hy⟩
      · have h2 := (List.getElem?_eq_some_iff.1 hy).1
        simp at h2
        obtain rfl : i = vs.length := by omega
        rw [List.getElem?_append_right (Nat.le_refl _), Nat.sub_self] at hy
        exact .inr ⟨rfl, by simpa using hy.symm⟩
    have hll := hRs.len
    refine ⟨vs ++ [.slice ua n uc], by simp [hll], o1, fun q hq => (World.ownsRow.lt o1 q hq).2, fun i y m hy hm => ?_, fun i j y y' hij hy hy' => ?_⟩
    · rcases hlt i y hy with ⟨hi, hv⟩ | ⟨rfl, rfl⟩
      · rw [List.getElem?_append_left (by omega)] at hm
        obtain ⟨k1, k2, k3⟩ := hRx.row i y m hv hm
        refine ⟨k1.keep o2 k2, ?_, fun q hq => by have := k3 q hq; omega⟩
        cases e : y.ownBlock with
        | none => exact .inl rfl
        | some b =>
          right
          intro h
          have hb := k3 b e
          rcases o3 with o3 | ⟨r, o3, hr⟩
          · rw [o3, ← e] at h
            rcases k2 with k2 | k2
            · rw [k2] at e; cases e
            · exact k2 h
          · rw [o3] at h; injection h with h; omega
      · rw [hll, List.getElem?_append_right (Nat.le_refl _), Nat.sub_self] at hm
        obtain rfl : l = m := by simpa using hm
        refine ⟨(hu2.keep o2 ?_).mono hB, ?_, fun q hq => by have := huT q hq; have := o2.size; omega⟩
        · cases e : (Value.slice ua n uc).ownBlock with
          | none => exact .inl rfl
          | some b =>
            right
            intro h
            have h1 := huT b e
            have h2 := hvT b h.symm
            omega
        · cases e : (Value.slice ua n uc).ownBlock with
          | none => exact .inl rfl
          | some b =>
            right
            intro h
            have h1 := huT b e
            have h2 := hnew b h.symm
            omega
    · rcases hlt i y hy with ⟨hi, hv⟩ | ⟨rfl, rfl⟩
      · rcases hlt j y' hy' with ⟨hj, hv'⟩ | ⟨rfl, rfl⟩
        · exact hRx.apart i j y y' hij hv hv'
        · cases e : y.ownBlock with
          | none => exact .inl rfl
          | some b =>
            right
            intro h
            obtain ⟨m, hm⟩ : ∃ m, ls[i]? = some m := ⟨_, List.getElem?_eq_getElem (by omega)⟩
            have h1 := (hRx.row i y m hv hm).2.2 b e
            have h2 := huT b h.symm
            omega
      · rcases hlt j y' hy' with ⟨hj, hv'⟩ | ⟨rfl, rfl⟩
        · cases e : (Value.slice ua n uc).ownBlock with
          | none => exact .inl rfl
          | some b =>
            right
            intro h
            obtain ⟨m, hm⟩ : ∃ m, ls[j]? = some m := ⟨_, List.getElem?_eq_getElem (by omega)⟩
            have h1 := (hRx.row j y' m hv' hm).2.2 b h.symm
            have h2 := huT b e
            omega
        · exact absurd rfl hij
  · exact Below.grown (Below.mono x6 (by omega)) ha.2.1 (by omega) (fun k hk => hRs.list.block k hk)
end
end Go.Proofs.Ytdmdcgcmappliaa
