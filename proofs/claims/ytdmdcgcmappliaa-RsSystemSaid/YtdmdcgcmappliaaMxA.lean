/-
  A matrix in memory: a block of slices, each of which reads as a row of bytes; what stays of it when it or another is written. No statement about the program.
-/
import Derived.Test.YtdmdcgcmappliaaORows
namespace Go.Proofs.Ytdmdcgcmappliaa
open Go.RowKit
set_option maxRecDepth 100000
set_option maxHeartbeats 1000000

theorem Row.cell_inv {w : World} {g : Nat} {e : TypeId} {cs : Array Value} (h : Row w g e cs) {o : Nat} {u : Value} (hc : w.cell? ⟨g, o, none⟩ = some u) : cs[o]? = some u := by
  unfold Row at h
  simpa [World.cell?, h] using hc
/-- Bytes lie in no block of slices. -/
theorem Bytes.off {w : World} {g : Nat} {e : TypeId} {vs : List Value} (hr : Row w g e vs.toArray) (hs : ∀ v ∈ vs, ∃ a n c, v = .slice a n c) {v : Value} {l : List UInt8} (h : Bytes w v l) (i : Nat) (u : Value) :
    Bytes (w.setCell ⟨g, i, none⟩ u) v l := by
  obtain ⟨a, cap, e1, hl, hn, hc⟩ := h
  refine ⟨a, cap, e1, hl, hn, fun j x hx => ?_⟩
  obtain ⟨ad, h1, h2⟩ := hc j x hx
  refine ⟨ad, h1, ?_⟩
  rw [World.cell?_setCell_other]
  · exact h2
  · intro hb
    have hb : g = (ad.add j).block := congrArg Addr.block hb
    have hp := addr_plain h2
    rw [hp, ← hb] at h2
    have h3 := hr.cell_inv h2
    have h4 : x ∈ vs := by
      have : vs[(ad.add j).off]? = some x := by simpa using h3
      exact List.mem_of_getElem? this
    obtain ⟨a', n', c', rfl⟩ := hs x h4
    have hx2 : Value.slice a' n' c' ∈ bvs l := List.mem_of_getElem? hx
    obtain ⟨y, _, hy⟩ := List.mem_map.1 hx2
    cases hy
theorem Bytes.slice {w : World} {v : Value} {l : List UInt8} (h : Bytes w v l) : ∃ a c, v = .slice a l.length c := by
  obtain ⟨a, cap, e, -, -, -⟩ := h
  exact ⟨a, cap, by rw [e, bvs_len]⟩

/-- Block g holds the rows' slices. -/
def MR (w : World) (B g : Nat) (ls : List (List UInt8)) : Prop :=
  ∃ vs : List Value, vs.length = ls.length ∧ B ≤ g ∧ Row w g 34 vs.toArray ∧ ∀ (i : Nat) (v : Value) (l : List UInt8), vs[i]? = some v → ls[i]? = some l → Bytes w v l
theorem MR.ext {w w' : World} {B g : Nat} {ls : List (List UInt8)} (h : MR w B g ls) (hx : Ext w w') : MR w' B g ls := by
  obtain ⟨vs, h1, h2, h3, h4⟩ := h
  exact ⟨vs, h1, h2, h3.ext hx, fun i v l hv hl => (h4 i v l hv hl).ext hx⟩
theorem MR.base {w : World} {B g : Nat} {ls : List (List UInt8)} (h : MR w B g ls) : B ≤ g := by obtain ⟨_, _, h2, _⟩ := h; exact h2
theorem MR.lt {w : World} {B g : Nat} {ls : List (List UInt8)} (h : MR w B g ls) : g < w.heap.size := by obtain ⟨_, _, _, h3, _⟩ := h; exact h3.lt
theorem MR.start (w : World) (B n : Nat) (hB : B ≤ w.heap.size) : MR (w.alloc (.cells (Array.replicate n (.slice none 0 0)) 34)) B w.heap.size (List.replicate n []) := by
  refine ⟨List.replicate n (.slice none 0 0), by simp, hB, by rw [List.toArray_replicate]; exact Row.new _ _ _, fun i v l hv hl => ?_⟩
  rw [List.getElem?_replicate] at hv hl
  split at hv
  · simp at hv hl
    obtain ⟨_, rfl⟩ := hl
    subst hv
    exact Cells.nil _
  · cases hv
theorem MR.slices {w : World} {vs : List Value} {ls : List (List UInt8)} (h1 : vs.length = ls.length) (h4 : ∀ (i : Nat) (v : Value) (l : List UInt8), vs[i]? = some v → ls[i]? = some l → Bytes w v l) : ∀ v ∈ vs, ∃ a n c, v = .slice a n c := by
  intro v hv
  obtain ⟨i, hi⟩ := List.getElem?_of_mem hv
  have hi2 : i < ls.length := by have := (List.getElem?_eq_some_iff.1 hi).1; omega
  obtain ⟨a, c, e⟩ := (h4 i v _ hi (List.getElem?_eq_getElem hi2)).slice
  exact ⟨a, _, c, e⟩
/-- A row that is written. -/
theorem MR.set {w : World} {B g : Nat} {ls : List (List UInt8)} (h : MR w B g ls) {v' : Value} {l' : List UInt8} (hb : Bytes w v' l') (i : Nat) : MR (w.setCell ⟨g, i, none⟩ v') B g (ls.set i l') := by
  obtain ⟨vs, h1, h2, h3, h4⟩ := h
  have hs := MR.slices h1 h4
  refine ⟨vs.set i v', by simp [h1], h2, ?_, fun j v l hv hl => ?_⟩
  · have := h3.set i v'
    have e : (vs.set i v').toArray = vs.toArray.setIfInBounds i v' := by simp
    rw [e]; exact this
  · rw [List.getElem?_set] at hv hl
    by_cases e : i = j
    · rw [if_pos e] at hv hl
      split at hv
      · rename_i hi
        rw [if_pos (by omega)] at hl
        simp only [Option.some.injEq] at hv hl
        rw [← hv, ← hl]
        exact hb.off h3 hs i v'
      · cases hv
    · rw [if_neg e] at hv hl
      exact (h4 j v l hv hl).off h3 hs i v'
/-- Another matrix's row, written. -/
theorem MR.set_other {w : World} {B g g' B' : Nat} {ls ls' : List (List UInt8)} (h : MR w B g ls) (k : MR w B' g' ls') (hne : g' ≠ g) (i : Nat) (u : Value) : MR (w.setCell ⟨g', i, none⟩ u) B g ls := by
  obtain ⟨vs, h1, h2, h3, h4⟩ := h
  obtain ⟨us, k1, k2, k3, k4⟩ := k
  exact ⟨vs, h1, h2, h3.set_ne (by exact hne) u, fun j v l hv hl => (h4 j v l hv hl).off k3 (MR.slices k1 k4) i u⟩
theorem Bytes.other {w : World} {B g : Nat} {ls : List (List UInt8)} {v : Value} {l : List UInt8} (h : Bytes w v l) (k : MR w B g ls) (i : Nat) (u : Value) : Bytes (w.setCell ⟨g, i, none⟩ u) v l := by
  obtain ⟨us, k1, k2, k3, k4⟩ := k
  exact h.off k3 (MR.slices k1 k4) i u
theorem MR.unfrozen {w : World} {B g : Nat} {ls : List (List UInt8)} (h : MR w B g ls) (i : Nat) : w.frozen? ⟨g, i, none⟩ = false := by
  obtain ⟨_, _, _, h3, _⟩ := h; exact h3.unfrozen i
/-- The i-th row: its cell and its bytes. -/
theorem MR.at {w : World} {B g : Nat} {ls : List (List UInt8)} (h : MR w B g ls) {i : Nat} {l : List UInt8} (hl : ls[i]? = some l) : ∃ ra rc, w.cell? ⟨g, i, none⟩ = some (.slice ra l.length rc) ∧ Bytes w (.slice ra l.length rc) l := by
  obtain ⟨vs, h1, h2, h3, h4⟩ := h
  have hi : i < vs.length := by have := (List.getElem?_eq_some_iff.1 hl).1; omega
  have hb := h4 i vs[i] l (List.getElem?_eq_getElem hi) hl
  obtain ⟨ra, rc, e⟩ := hb.slice
  rw [e] at hb
  refine ⟨ra, rc, h3.cell ?_, hb⟩
  rw [← e]; simp [hi]
theorem MR.brows {w : World} {B g : Nat} {ls : List (List UInt8)} (h : MR w B g ls) {n : Nat} (hn : n = ls.length) : BRows w (.slice (some ⟨g, 0, none⟩) n n) ls := by
  obtain ⟨vs, h1, h2, h3, h4⟩ := h
  refine ⟨vs, ⟨some ⟨g, 0, none⟩, n, by rw [h1, hn], by rw [h1, hn]; exact Nat.le_refl _, (fun h => by cases h), fun j u hu => ⟨_, rfl, ?_⟩⟩, h1, h4⟩
  rw [Addr.add_lit, Nat.zero_add]
  exact h3.cell (by simpa using hu)
theorem ORows.mr {w : World} {B g k : Nat} {vs : List Value} {ls : List (List UInt8)} (h : ORows w B g k vs ls) : MR w B g ls :=
  ⟨vs, by rw [h.vlen, h.llen], h.base, h.row, fun i v l hv hl => (h.own i v l hv hl).1.cells⟩
theorem Below.set {B : Nat} {w w' : World} (h : Below B w w') {g : Nat} (hg : B ≤ g) (i : Nat) (v : Value) : Below B w (w'.setCell ⟨g, i, none⟩ v) := h.setCell (p := ⟨g, i, none⟩) hg v
end Go.Proofs.Ytdmdcgcmappliaa
