/-
  Rows of bytes of the call's own, one block each, their slices in a block: what appending and writing keep. No statement about the program.
  A matrix in memory: a block of slices, each of which reads as a row of bytes; what stays of it when it or another is written. No statement about the program.
  matrix: side, blank, Unit, bytes.Clone, clone.
  matrix: Unit, clone, pivot.
  matrix.pivot.
  matrix.good, matrix.Square.
  matrix.good, matrix.Square.
  matrix.Vandermonde.
  matrix.Mul.
-/
import Derived.Test.YthkbbcdnmdjhdaaGreatA1
import Derived.Deep.RegionLaw
import Derived.Test.YthkbbcdnmdjhdaaGreatA2
import Derived.Deep.QuietTactic
import Derived.BigQuiet
import Derived.Lib.SliceRun
/-! XORows: Rows of bytes of the call's own, one block each, their slices in a block: what appending and writing keep. No statement about the program. -/
namespace Go.Proofs.YthkbbcdnmdjhdaaGreat
open Go.RowKit
set_option maxRecDepth 100000
set_option maxHeartbeats 1000000

theorem info_bytes : (Tryz.prog.info? 24).map (fun i => (i.zero, i.size, i.bytes)) = some (some (.slice none 0 0), 1, 24) := by kernel_rfl

/-- Block g is a row of k byte slices, each the call's own, no two in one block. -/
structure ORows (w : World) (B g k : Nat) (vs : List Value) (ls : List (List UInt8)) : Prop where
  vlen : vs.length = k
  llen : ls.length = k
  base : B ≤ g
  row : Row w g 24 vs.toArray
  own : ∀ (i : Nat) (v : Value) (l : List UInt8), vs[i]? = some v → ls[i]? = some l → Own w B 5 v (bvs l) ∧ v.ownBlock ≠ some g
  apart : ∀ (i j : Nat) (v v' : Value), i ≠ j → vs[i]? = some v → vs[j]? = some v' → v.ownBlock = none ∨ v.ownBlock ≠ v'.ownBlock
theorem ORows.start (w : World) (B k : Nat) (hB : B ≤ w.heap.size) : ORows (w.alloc (.cells (Array.replicate k (.slice none 0 0)) 24)) B w.heap.size k (List.replicate k (.slice none 0 0)) (List.replicate k []) := by
  refine ⟨by simp, by simp, hB, by rw [List.toArray_replicate]; exact Row.new _ _ _, fun i v l hv hl => ?_, fun i j v v' _ hv _ => ?_⟩
  · rw [List.getElem?_replicate] at hv hl
    split at hv
    · simp at hv hl
      obtain ⟨_, rfl⟩ := hl
      subst hv
      exact ⟨Own.nil _ _ _, by simp [Value.ownBlock]⟩
    · cases hv
  · rw [List.getElem?_replicate] at hv
    split at hv
    · simp at hv; subst hv; exact .inl rfl
    · cases hv
theorem ORows.drewN {w : World} {B g k : Nat} {vs : List Value} {ls : List (List UInt8)} (h : ORows w B g k vs ls) (n : Nat) : ORows (w.drewN n) B g k vs ls := ⟨h.vlen, h.llen, h.base, h.row, h.own, h.apart⟩
theorem ORows.drew {w : World} {B g k : Nat} {vs : List Value} {ls : List (List UInt8)} (h : ORows w B g k vs ls) : ORows w.drew B g k vs ls := ⟨h.vlen, h.llen, h.base, h.row, h.own, h.apart⟩
theorem Own.keep {w w' : World} {B : Nat} {e : TypeId} {v : Value} {cs : List Value} {r : Option Nat} (h : Own w B e v cs) (hg : w.grownBy w' r) (hne : v.ownBlock = none ∨ v.ownBlock ≠ r) : Own w' B e v cs := World.ownsRow.kept h hg hne
theorem Own.set_other {w : World} {B : Nat} {e : TypeId} {v : Value} {cs : List Value} (h : Own w B e v cs) {p : Addr} (hp : v.ownBlock ≠ some p.block) (u : Value) : Own (w.setCell p u) B e v cs := by
  rcases h.forms with ⟨rfl, rfl⟩ | ⟨g, cap, cur, rfl, h2, hr, hl, hs, ht, h5⟩
  · exact Own.nil _ _ _
  · exact Own.mk h2 (hr.set_ne (fun h => hp (by rw [h]; rfl)) u) hl hs ht h5
theorem ORows.step {w w' : World} {B g k : Nat} {vs : List Value} {ls : List (List UInt8)} (h : ORows w B g k vs ls) {i : Nat} {v v' : Value} {l x : List UInt8} (hv : vs[i]? = some v) (hl : ls[i]? = some l)
    (ha : AppOut w B 5 v (bvs (l ++ x)) v' w') : ORows (w'.setCell ⟨g, i, none⟩ v') B g k (vs.set i v') (ls.set i (l ++ x)) := by
  obtain ⟨o1, o2, o3⟩ := ha
  have hgs := h.row.lt
  obtain ⟨hown, hne⟩ := h.own i v l hv hl
  have hvb : ∀ b, v.ownBlock = some b → b < w.heap.size := fun b hb => (World.ownsRow.lt hown b hb).2
  have hblk : ∀ (j : Nat) (u : Value) (m : List UInt8), vs[j]? = some u → ls[j]? = some m → ∀ b, u.ownBlock = some b → b < w.heap.size := fun j u m hu hm b hb => (World.ownsRow.lt (h.own j u m hu hm).1 b hb).2
  have hv'g : v'.ownBlock ≠ some g := by
    rcases o3 with o3 | ⟨q, o3, hq⟩
    · rw [o3]; exact hne
    · rw [o3]; intro h; injection h with h; omega
  have hlen := h.vlen
  have hll := h.llen
  have hi : i < vs.length := (List.getElem?_eq_some_iff.1 hv).1
  refine ⟨by simpa using hlen, by simpa using hll, h.base, ?_, fun j u m hu hm => ?_, fun j j' u u' hjj hu hu' => ?_⟩
  · have r1 : Row w' g 24 vs.toArray := (o2.block g hgs (fun h => hne h.symm)).trans h.row
    have r2 := r1.set i v'
    have e : (vs.set i v').toArray = vs.toArray.setIfInBounds i v' := by simp
    rw [e]; exact r2
  · rw [List.getElem?_set] at hu hm
    by_cases hji : i = j
    · subst hji
      rw [if_pos rfl, if_pos hi] at hu
      rw [if_pos rfl, if_pos (by omega)] at hm
      simp at hu hm
      subst hu hm
      exact ⟨o1.set_other hv'g _, hv'g⟩
    · rw [if_neg hji] at hu hm
      obtain ⟨k1, k2⟩ := h.own j u m hu hm
      have hap := h.apart j i u v (fun h => hji h.symm) hu hv
      exact ⟨(k1.keep o2 hap).set_other k2 _, k2⟩
  · rw [List.getElem?_set] at hu hu'
    have old : ∀ (q : Nat) (y : Value), i ≠ q → vs[q]? = some y → y.ownBlock = none ∨ y.ownBlock ≠ v'.ownBlock := by
      intro q y hq hy
      have hm : ∃ m, ls[q]? = some m := ⟨ls[q]'(by have := (List.getElem?_eq_some_iff.1 hy).1; omega), List.getElem?_eq_getElem _⟩
      obtain ⟨m, hm⟩ := hm
      rcases o3 with o3 | ⟨c, o3, hc⟩
      · rw [o3]; exact h.apart q i y v (fun h => hq h.symm) hy hv
      · cases hb : y.ownBlock with
        | none => exact .inl rfl
        | some b => right; rw [o3]; intro he; injection he with he; have := hblk q y m hy hm b hb; omega
    by_cases c1 : i = j
    · subst c1
      rw [if_pos rfl, if_pos hi] at hu
      rw [if_neg hjj] at hu'
      simp at hu; subst hu
      rcases old j' u' hjj hu' with o | o
      · cases hb : v'.ownBlock with
        | none => exact .inl rfl
        | some b => right; rw [o]; simp
      · exact .inr fun h => o h.symm
    · rw [if_neg c1] at hu
      by_cases c2 : i = j'
      · subst c2
        rw [if_pos rfl, if_pos hi] at hu'
        simp at hu'; subst hu'
        exact old j u c1 hu
      · rw [if_neg c2] at hu'
        exact h.apart j j' u u' hjj hu hu'
theorem ORows.brows {w : World} {B g k : Nat} {vs : List Value} {ls : List (List UInt8)} (h : ORows w B g k vs ls) : BRows w (.slice (some ⟨g, 0, none⟩) k k) ls := by
  refine ⟨vs, ⟨some ⟨g, 0, none⟩, k, by rw [h.vlen], by rw [h.vlen]; exact Nat.le_refl _, (fun h => by cases h), fun j u hu => ⟨_, rfl, ?_⟩⟩, by rw [h.vlen, h.llen], fun i u l hu hl => (h.own i u l hu hl).1.cells⟩
  rw [Addr.add_lit, Nat.zero_add]
  exact h.row.cell (by simpa using hu)


/-- A cell of a row, written in place. -/
theorem ORows.poke {w : World} {B g k : Nat} {vs : List Value} {ls : List (List UInt8)} (h : ORows w B g k vs ls) {i b n cap : Nat} {l : List UInt8} (hv : vs[i]? = some (.slice (some ⟨b, 0, none⟩) n cap)) (hl : ls[i]? = some l) (j : Nat) (x : UInt8) :
    ORows (w.setCell ⟨b, j, none⟩ (bv x)) B g k vs (ls.set i (l.set j x)) := by
  obtain ⟨o1, o2⟩ := h.own i _ l hv hl
  have hne : b ≠ g := fun e => o2 (by rw [e]; rfl)
  have hlen := h.vlen
  have hll := h.llen
  have hi : i < ls.length := (List.getElem?_eq_some_iff.1 hl).1
  refine ⟨hlen, by rw [List.length_set]; exact hll, h.base, h.row.set_ne hne _, fun q u m hu hm => ?_, fun q q' u u' hq hu hu' => h.apart q q' u u' hq hu hu'⟩
  rw [List.getElem?_set] at hm
  by_cases e : i = q
  · subst e
    rw [if_pos rfl, if_pos hi] at hm
    simp only [Option.some.injEq] at hm
    rw [hv] at hu
    simp only [Option.some.injEq] at hu
    rw [← hu, ← hm]
    refine ⟨?_, o2⟩
    have := o1.set j (bv x)
    have e : (bvs l).set j (bv x) = bvs (l.set j x) := by simp [List.map_set]
    rw [e] at this
    exact this
  · rw [if_neg e] at hm
    obtain ⟨k1, k2⟩ := h.own q u m hu hm
    refine ⟨k1.set_other ?_ _, k2⟩
    rcases h.apart q i u _ (fun h => e h.symm) hu hv with a | a
    · rw [a]; exact fun h => by cases h
    · exact a
theorem make_cap {P : Program} (t e : TypeId) (z : Value) (bytes n c : Nat) (ht : P.underlying t = some (.slice e))
    (hi : (P.info? e).map (fun i => (i.zero, i.size, i.bytes)) = some (some z, 1, bytes)) (hz1 : z.cells = #[z]) (hnc : n ≤ c) (hb : bytes * c ≤ 281474976710656) (hn : c ≤ 9223372036854775807) (w : World) :
    (Instr.makeSlice t (.int .i64 (n : Int)) (.int .i64 (c : Int))).run P w = .ok (.slice (some ⟨w.heap.size, 0, none⟩) n c) (w.alloc (.cells (Array.replicate c z) e)) := by
  obtain ⟨i, hi, hz, hs, hby⟩ := info_parts hi
  have hb' : (i.bytes : Int) * (c : Int) ≤ 281474976710656 := by
    have h : ((i.bytes * c : Nat) : Int) ≤ 281474976710656 := by rw [hby]; omega
    rwa [Int.natCast_mul] at h
  rw [run_make (P := P) w t e i z ht hi hz .i64 .i64 n c (by omega) (by omega) hb' (by omega)]
  congr 4
  rw [hz1, hs, Nat.mul_one, Int.toNat_natCast]
  apply Array.ext
  · simp [madeCells]
  · intro k h1 h2
    simp [madeCells, Nat.mod_one]

/-- The i-th row, its value and its cell. -/
theorem BRows.at {w : World} {a : Option Addr} {n cap : Nat} {ls : List (List UInt8)} (h : BRows w (.slice a n cap) ls) {i : Nat} {l : List UInt8} (hl : ls[i]? = some l) :
    ∃ b o ra rc, a = some ⟨b, o, none⟩ ∧ w.cell? ⟨b, o + i, none⟩ = some (.slice ra l.length rc) ∧ Bytes w (.slice ra l.length rc) l := by
  obtain ⟨vs, h1, h2, h3⟩ := h
  have hi : i < vs.length := by have := (List.getElem?_eq_some_iff.1 hl).1; omega
  obtain ⟨b, o, e, hc⟩ := h1.at (List.getElem?_eq_getElem hi)
  have hb := h3 i vs[i] l (List.getElem?_eq_getElem hi) hl
  obtain ⟨ra, rc, e2, -, -, -⟩ := id hb
  rw [bvs_len] at e2
  rw [e2] at hc hb
  exact ⟨b, o, ra, rc, e, hc, hb⟩
theorem BRows.len {w : World} {a : Option Addr} {n cap : Nat} {ls : List (List UInt8)} (h : BRows w (.slice a n cap) ls) : n = ls.length := by
  obtain ⟨vs, ⟨a', cap', e, _⟩, h2, _⟩ := h
  simp only [Value.slice.injEq] at e
  omega
end Go.Proofs.YthkbbcdnmdjhdaaGreat
/-! XMxA: A matrix in memory: a block of slices, each of which reads as a row of bytes; what stays of it when it or another is written. No statement about the program. -/
namespace Go.Proofs.YthkbbcdnmdjhdaaGreat
open Go.RowKit
set_option maxRecDepth 100000
set_option maxHeartbeats 1000000

theorem Row.cell_inv {w : World} {g : Nat} {e : TypeId} {cs : Array Value} (h : Row w g e cs) {o : Nat} {u : Value} (hc : w.cell? ⟨g, o, none⟩ = some u) : cs[o]? = some u := by
  unfold Row at h
  simpa [World.cell?, h] using hc
/-- Bytes lie in no block of slices. -/
theorem Bytes.off {w : World} {g : Nat} {e : TypeId} {vs : List Value} (hr : Row w g e vs.toArray) (hs : ∀ v ∈ vs, ∃ a n c, v = .slice a n c) {v : Value} {l : List UInt8} (h : Bytes w v l) (i : Nat) (u : Value) :
    Bytes (w.setCell ⟨g, i, none⟩ u) v l := by
  obtain ⟨a, cap, e1, hl, hn, hc⟩ := h
  refine ⟨a, cap, e1, hl, hn, fun j x hx => ?_⟩
  obtain ⟨ad, h1, h2⟩ := hc j x hx
  refine ⟨ad, h1, ?_⟩
  rw [World.cell?_setCell_other]
  · exact h2
  · intro hb
    have hb : g = (ad.add j).block := congrArg Addr.block hb
    have hp := addr_plain h2
    rw [hp, ← hb] at h2
    have h3 := hr.cell_inv h2
    have h4 : x ∈ vs := by
      have : vs[(ad.add j).off]? = some x := by simpa using h3
      exact List.mem_of_getElem? this
    obtain ⟨a', n', c', rfl⟩ := hs x h4
    have hx2 : Value.slice a' n' c' ∈ bvs l := List.mem_of_getElem? hx
    obtain ⟨y, _, hy⟩ := List.mem_map.1 hx2
    cases hy
/-- Block g holds the rows' slices. -/
def MR (w : World) (B g : Nat) (ls : List (List UInt8)) : Prop :=
  ∃ vs : List Value, vs.length = ls.length ∧ B ≤ g ∧ Row w g 24 vs.toArray ∧ ∀ (i : Nat) (v : Value) (l : List UInt8), vs[i]? = some v → ls[i]? = some l → Bytes w v l
theorem MR.ext {w w' : World} {B g : Nat} {ls : List (List UInt8)} (h : MR w B g ls) (hx : Ext w w') : MR w' B g ls := by
  obtain ⟨vs, h1, h2, h3, h4⟩ := h
  exact ⟨vs, h1, h2, h3.ext hx, fun i v l hv hl => (h4 i v l hv hl).ext hx⟩
theorem MR.base {w : World} {B g : Nat} {ls : List (List UInt8)} (h : MR w B g ls) : B ≤ g := by obtain ⟨_, _, h2, _⟩ := h; exact h2
theorem MR.lt {w : World} {B g : Nat} {ls : List (List UInt8)} (h : MR w B g ls) : g < w.heap.size := by obtain ⟨_, _, _, h3, _⟩ := h; exact h3.lt
theorem MR.start (w : World) (B n : Nat) (hB : B ≤ w.heap.size) : MR (w.alloc (.cells (Array.replicate n (.slice none 0 0)) 24)) B w.heap.size (List.replicate n []) := by
  refine ⟨List.replicate n (.slice none 0 0), by simp, hB, by rw [List.toArray_replicate]; exact Row.new _ _ _, fun i v l hv hl => ?_⟩
  rw [List.getElem?_replicate] at hv hl
  split at hv
  · simp at hv hl
    obtain ⟨_, rfl⟩ := hl
    subst hv
    exact Cells.nil _
  · cases hv
theorem MR.slices {w : World} {vs : List Value} {ls : List (List UInt8)} (h1 : vs.length = ls.length) (h4 : ∀ (i : Nat) (v : Value) (l : List UInt8), vs[i]? = some v → ls[i]? = some l → Bytes w v l) : ∀ v ∈ vs, ∃ a n c, v = .slice a n c := by
  intro v hv
  obtain ⟨i, hi⟩ := List.getElem?_of_mem hv
  have hi2 : i < ls.length := by have := (List.getElem?_eq_some_iff.1 hi).1; omega
  obtain ⟨a, c, e⟩ := (h4 i v _ hi (List.getElem?_eq_getElem hi2)).slice
  exact ⟨a, _, c, e⟩
/-- A row that is written. -/
theorem MR.set {w : World} {B g : Nat} {ls : List (List UInt8)} (h : MR w B g ls) {v' : Value} {l' : List UInt8} (hb : Bytes w v' l') (i : Nat) : MR (w.setCell ⟨g, i, none⟩ v') B g (ls.set i l') := by
  obtain ⟨vs, h1, h2, h3, h4⟩ := h
  have hs := MR.slices h1 h4
  refine ⟨vs.set i v', by simp [h1], h2, ?_, fun j v l hv hl => ?_⟩
  · have := h3.set i v'
    have e : (vs.set i v').toArray = vs.toArray.setIfInBounds i v' := by simp
    rw [e]; exact this
  · rw [List.getElem?_set] at hv hl
    by_cases e : i = j
    · rw [if_pos e] at hv hl
      split at hv
      · rename_i hi
        rw [if_pos (by omega)] at hl
        simp only [Option.some.injEq] at hv hl
        rw [← hv, ← hl]
        exact hb.off h3 hs i v'
      · cases hv
    · rw [if_neg e] at hv hl
      exact (h4 j v l hv hl).off h3 hs i v'
/-- Another matrix's row, written. -/
theorem MR.set_other {w : World} {B g g' B' : Nat} {ls ls' : List (List UInt8)} (h : MR w B g ls) (k : MR w B' g' ls') (hne : g' ≠ g) (i : Nat) (u : Value) : MR (w.setCell ⟨g', i, none⟩ u) B g ls := by
  obtain ⟨vs, h1, h2, h3, h4⟩ := h
  obtain ⟨us, k1, k2, k3, k4⟩ := k
  exact ⟨vs, h1, h2, h3.set_ne (by exact hne) u, fun j v l hv hl => (h4 j v l hv hl).off k3 (MR.slices k1 k4) i u⟩
theorem Bytes.other {w : World} {B g : Nat} {ls : List (List UInt8)} {v : Value} {l : List UInt8} (h : Bytes w v l) (k : MR w B g ls) (i : Nat) (u : Value) : Bytes (w.setCell ⟨g, i, none⟩ u) v l := by
  obtain ⟨us, k1, k2, k3, k4⟩ := k
  exact h.off k3 (MR.slices k1 k4) i u
theorem MR.unfrozen {w : World} {B g : Nat} {ls : List (List UInt8)} (h : MR w B g ls) (i : Nat) : w.frozen? ⟨g, i, none⟩ = false := by
  obtain ⟨_, _, _, h3, _⟩ := h; exact h3.unfrozen i
/-- The i-th row: its cell and its bytes. -/
theorem MR.at {w : World} {B g : Nat} {ls : List (List UInt8)} (h : MR w B g ls) {i : Nat} {l : List UInt8} (hl : ls[i]? = some l) : ∃ ra rc, w.cell? ⟨g, i, none⟩ = some (.slice ra l.length rc) ∧ Bytes w (.slice ra l.length rc) l := by
  obtain ⟨vs, h1, h2, h3, h4⟩ := h
  have hi : i < vs.length := by have := (List.getElem?_eq_some_iff.1 hl).1; omega
  have hb := h4 i vs[i] l (List.getElem?_eq_getElem hi) hl
  obtain ⟨ra, rc, e⟩ := hb.slice
  rw [e] at hb
  refine ⟨ra, rc, h3.cell ?_, hb⟩
  rw [← e]; simp [hi]
theorem MR.brows {w : World} {B g : Nat} {ls : List (List UInt8)} (h : MR w B g ls) {n : Nat} (hn : n = ls.length) : BRows w (.slice (some ⟨g, 0, none⟩) n n) ls := by
  obtain ⟨vs, h1, h2, h3, h4⟩ := h
  refine ⟨vs, ⟨some ⟨g, 0, none⟩, n, by rw [h1, hn], by rw [h1, hn]; exact Nat.le_refl _, (fun h => by cases h), fun j u hu => ⟨_, rfl, ?_⟩⟩, h1, h4⟩
  rw [Addr.add_lit, Nat.zero_add]
  exact h3.cell (by simpa using hu)
theorem ORows.mr {w : World} {B g k : Nat} {vs : List Value} {ls : List (List UInt8)} (h : ORows w B g k vs ls) : MR w B g ls :=
  ⟨vs, by rw [h.vlen, h.llen], h.base, h.row, fun i v l hv hl => (h.own i v l hv hl).1.cells⟩
theorem Below.set {B : Nat} {w w' : World} (h : Below B w w') {g : Nat} (hg : B ≤ g) (i : Nat) (v : Value) : Below B w (w'.setCell ⟨g, i, none⟩ v) := h.setCell (p := ⟨g, i, none⟩) hg v
end Go.Proofs.YthkbbcdnmdjhdaaGreat
/-! XMxB: matrix: side, blank, Unit, bytes.Clone, clone. -/
namespace Go.Proofs.YthkbbcdnmdjhdaaGreat
open Go.RowKit
set_option maxRecDepth 100000
set_option maxHeartbeats 4000000
attribute [local go_sem] min_int2 max_int2

theorem side_yes (n : Int) (h : 1 ≤ n ∧ n ≤ 255) (w : World) : Calls Tryz.prog 161 #[.int .i64 n] w fun e w' => e = .returned (.bool true) ∧ w = w' := by
  obtain ⟨h1, h2⟩ := h
  go_enter Tryz.func161, Tryz.ntmps161
  go_wp2
  go_ret
  exact ⟨rfl, rfl⟩
theorem side_no (n : Int) (h : ¬ (1 ≤ n ∧ n ≤ 255)) (w : World) : Calls Tryz.prog 161 #[.int .i64 n] w fun e w' => e = .returned (.bool false) ∧ w = w' := by
  have key : n < 1 ∨ (1 ≤ n ∧ 255 < n) := by omega
  clear h
  rcases key with h1 | ⟨h1, h2⟩
  all_goals
    go_enter Tryz.func161, Tryz.ntmps161
    go_wp2
    go_ret
    first
      | exact ⟨rfl, rfl⟩
      | exact ⟨ret_b (decide_eq_false (by omega)), rfl⟩

theorem bclone_any (v : Value) (l : List UInt8) (hl : l.length ≤ 140737488351232) (w : World) (hb : Bytes w v l) :
    Calls Tryz.prog 85 #[v] w fun e w' => ∃ u, e = .returned u ∧ Bytes w' u l ∧ Ext w w' := by
  obtain ⟨a, c, rfl⟩ := hb.slice
  have q := nil_bytes
  cases a with
  | none =>
    have hl0 : l = [] := by
      obtain ⟨a', cap', e, h1, h2, _⟩ := hb
      simp only [Value.slice.injEq] at e
      obtain ⟨rfl, e2, rfl⟩ := e
      have := h2 rfl
      rw [bvs_len] at h1
      exact List.length_eq_zero_iff.1 (by omega)
    subst hl0
    go_enter Tryz.func85, Tryz.ntmps85
    go_wp2
    go_ret
    exact ⟨_, rfl, Cells.nil _, Ext.refl _⟩
  | some ad =>
    have HB := Lib.hid hb
    clear hb
    have o0 : Own (w.alloc (.cells #[] 5)) w.heap.size 5 (.slice (some ⟨w.heap.size, 0, none⟩) 0 0) (bvs []) := Own.new w w.heap.size 5 #[] (Nat.le_refl _) (by decide)
    have y3 : Ext w (w.alloc (.cells #[] 5)) := (Ext.refl w).alloc (Nat.le_refl _) _
    go_enter Tryz.func85, Tryz.ntmps85
    go_wp2_with (at_builtin; refine list_of_wp rfl fun K hK => wp_appx _ _ 24 24 5 (.int .u8 0) 1 rfl Tryz.underlying24 info_u8' rfl rfl o0 rfl (Cells.src Tryz.underlying24 (HB.out.ext y3) (bvs_one _)) (by rw [bvs_len, bvs_len]; simp [maxLen]; omega) (by rw [bvs_len, bvs_len]; simp; omega) y3.size l.length (by rw [bvs_len, bvs_len]; simp) fun ad4 c4 w4 ha4 => hK _ _ ?_)
    go_ret
    exact ⟨_, rfl, ha4.1.cells, Below.grown y3 ha4.2.1 y3.size (fun k hk => by have hk' : some w.heap.size = some k := hk; injection hk' with hk'; omega)⟩

theorem make_mat (n : Nat) (hn : n ≤ 70000) (w : World) : (Instr.makeSlice 216 (.int .i64 (n : Int)) (.int .i64 (n : Int))).run Tryz.prog w = .ok (.slice (some ⟨w.heap.size, 0, none⟩) n n) (w.alloc (.cells (Array.replicate n (.slice none 0 0)) 24)) :=
  make_row (P := Tryz.prog) 216 24 (.slice none 0 0) 24 n Tryz.underlying216 info_bytes rfl (by omega) (by omega) w
theorem make_byt (n : Nat) (hn : n ≤ 70000) (w : World) : (Instr.makeSlice 24 (.int .i64 (n : Int)) (.int .i64 (n : Int))).run Tryz.prog w = .ok (.slice (some ⟨w.heap.size, 0, none⟩) n n) (w.alloc (.cells (Array.replicate n (.int .u8 0)) 5)) :=
  make_row (P := Tryz.prog) 24 5 (.int .u8 0) 1 n Tryz.underlying24 info_u8' rfl (by omega) (by omega) w
theorem zeros_new (w : World) (n : Nat) : Bytes (w.alloc (.cells (Array.replicate n (.int .u8 0)) 5)) (.slice (some ⟨w.heap.size, 0, none⟩) n n) (List.replicate n 0) := by
  refine ⟨some ⟨w.heap.size, 0, none⟩, n, by rw [bvs_len]; simp, by rw [bvs_len]; simp, (fun h => by cases h), fun j u hu => ⟨_, rfl, ?_⟩⟩
  rw [Addr.add_lit, Nat.zero_add]
  refine (Row.new w 5 _).cell ?_
  have e : bvs (List.replicate n 0) = List.replicate n (Value.int .u8 0) := by
    show List.map bv _ = _
    rw [List.map_replicate]; rfl
  rw [e, List.getElem?_replicate] at hu
  rw [Array.getElem?_replicate]; exact hu

/-- A new row of noughts in the place of an empty one. -/
theorem AppOut.zeros (w : World) (B c : Nat) (hB : B ≤ w.heap.size) (hc : c ≤ 70000) (v : Value) : AppOut w B 5 v (bvs ([] ++ List.replicate c 0)) (.slice (some ⟨w.heap.size, 0, none⟩) c c) (w.alloc (.cells (Array.replicate c (.int .u8 0)) 5)) := by
  have e : bvs (List.replicate c 0) = List.replicate c (Value.int .u8 0) := by
    show List.map bv _ = _
    rw [List.map_replicate]; rfl
  refine ⟨?_, ⟨rfl, rfl, rfl, by simp, fun k hk _ => Below.heap_alloc w _ k hk⟩, .inr ⟨_, rfl, Nat.le_refl _⟩⟩
  have h := Own.mk (B := B) (g := w.heap.size) (cap := c) (e := 5) (cs := List.replicate c (Value.int .u8 0)) (cur := Array.replicate c (.int .u8 0)) hB (Row.new w _ _) (by simp) (by simp) (by simp) (by simp [maxLen]; omega)
  rw [List.nil_append, e]
  simpa using h

theorem blank_any (r c : Nat) (hr : r ≤ 70000) (hc : c ≤ 70000) (w : World) :
    Calls Tryz.prog 162 #[.int .i64 r, .int .i64 c] w fun e w' => ∃ g vs, e = .returned (.slice (some ⟨g, 0, none⟩) r r) ∧ ORows w' w.heap.size g r vs (List.replicate r (List.replicate c 0)) ∧ Ext w w' := by
  have hm1 := make_mat r hr
  have hm2 := make_byt c hc
  go_enter Tryz.func162, Tryz.ntmps162
  go_wp2_with fail
  have hO := Lib.hid (ORows.start w w.heap.size r (Nat.le_refl _))
  have hB := (Ext.refl w).alloc (Nat.le_refl _) (.cells (Array.replicate r (.slice none 0 0)) 24)
  generalize hw1 : w.alloc (.cells (Array.replicate r (.slice none 0 0)) 24) = w1 at hO hB ⊢
  clear hw1 hm1
  go_loopw [11] (fun v6 wr => ∃ (i : Nat) (vs : List Value) (ls : List (List UInt8)), i ≤ r ∧ v6 = .int .i64 (i : Nat) ∧ Hid (ORows wr w.heap.size w.heap.size r vs ls) ∧ Hid (∀ j, j < r → ls[j]? = some (if j < i then List.replicate c 0 else [])) ∧ Below w.heap.size w wr) (fun v6 _ => (r - intOf v6).toNat)
  case atStart => exact ⟨0, _, _, by omega, rfl, hO, Lib.hid fun j h => by rw [List.getElem?_replicate, if_pos h, if_neg (by omega)], hB⟩
  case round =>
    obtain ⟨i, vs, ls, hi, rfl, hR, hJ, hBr⟩ := hrel
    by_cases hlt : i < r
    · have u1 := hR.out.row.unfrozen i
      have hiv : i < vs.length := by have := hR.out.vlen; omega
      have c1 := hR.out.row.cell (i := i) (v := vs[i]) (by simp [hiv])
      have hlt' : (i : Int) < (r : Int) := by omega
      have xa : Ext wr (wr.alloc (.cells (Array.replicate c (.int .u8 0)) 5)) := (Ext.refl wr).alloc (Nat.le_refl _) _
      have c2 := xa.cell c1
      have u2 := xa.unfrozen c1 u1
      have hl0 : ls[i]? = some [] := by rw [hJ.out i hlt, if_neg (by omega)]
      have hst := Lib.hid (hR.out.step (x := List.replicate c 0) (List.getElem?_eq_getElem hiv) hl0 (AppOut.zeros wr w.heap.size c hBr.size hc _))
      have hBw := Below.set (Ext.trans hBr xa) (Nat.le_refl w.heap.size) i (.slice (some ⟨wr.heap.size, 0, none⟩) c c)
      have hil : i < ls.length := by have := hR.out.llen; omega
      clear c1 u1 hl0
      go_wp2_with fail
      refine ⟨⟨i + 1, _, _, by omega, by go_num, hst, Lib.hid fun j hj => ?_, hBw⟩, by simp [intOf]; omega⟩
      rw [List.getElem?_set]
      by_cases e : i = j
      · rw [if_pos e, if_pos hil, if_pos (by omega)]; rfl
      · rw [if_neg e, hJ.out j hj]
        by_cases e2 : j < i
        · rw [if_pos e2, if_pos (by omega)]
        · rw [if_neg e2, if_neg (by omega)]
    · obtain rfl : i = r := by omega
      have hle : ls = List.replicate i (List.replicate c 0) := by
        have hll := hR.out.llen
        apply List.ext_getElem?
        intro j
        by_cases hj : j < i
        · rw [hJ.out j hj, List.getElem?_replicate, if_pos hj, if_pos hj]
        · rw [List.getElem?_eq_none (by omega), List.getElem?_eq_none (by simp; omega)]
      have hR2 := hR.out
      rw [hle] at hR2
      have hR3 := Lib.hid hR2
      clear hR2 hle hJ hR hlt
      go_wp2_with fail
      go_ret
      exact ⟨_, _, rfl, hR3.out, hBr⟩
end Go.Proofs.YthkbbcdnmdjhdaaGreat
/-! XMxC: matrix: Unit, clone, pivot. -/
namespace Go.Proofs.YthkbbcdnmdjhdaaGreat
open Go.RowKit
set_option maxRecDepth 100000
set_option maxHeartbeats 4000000
attribute [local go_sem] min_int2 max_int2

/-- A row of the call's own that is not empty: its block. -/
theorem ORows.rowAt {w : World} {B g k : Nat} {vs : List Value} {ls : List (List UInt8)} (h : ORows w B g k vs ls) {i : Nat} {l : List UInt8} (hl : ls[i]? = some l) (h0 : 0 < l.length) :
    ∃ b cap, vs[i]? = some (.slice (some ⟨b, 0, none⟩) l.length cap) ∧ B ≤ b ∧ w.cell? ⟨g, i, none⟩ = some (.slice (some ⟨b, 0, none⟩) l.length cap) ∧ (∀ j x, l[j]? = some x → w.cell? ⟨b, j, none⟩ = some (bv x)) ∧ (∀ j, w.frozen? ⟨b, j, none⟩ = false) := by
  have hi : i < vs.length := by have q1 := (List.getElem?_eq_some_iff.1 hl).1; have q2 := h.vlen; have q3 := h.llen; omega
  obtain ⟨o1, o2⟩ := h.own i vs[i] l (List.getElem?_eq_getElem hi) hl
  rcases o1.forms with ⟨_, e⟩ | ⟨b, cap, cur, e, h2, hr, hc, hs, ht, h5⟩
  · have := congrArg List.length e
    rw [bvs_len, List.length_nil] at this
    omega
  · rw [bvs_len] at e
    have hv : vs[i]? = some (.slice (some ⟨b, 0, none⟩) l.length cap) := by rw [List.getElem?_eq_getElem hi, e]
    refine ⟨b, cap, hv, h2, h.row.cell (by simpa using hv), fun j x hx => ?_, fun j => hr.unfrozen j⟩
    have hb := o1.cells
    rw [e] at hb
    obtain ⟨b', o', e1, e2⟩ := hb.at (j := j) (u := bv x) (by simp [hx])
    simp only [Option.some.injEq, Addr.mk.injEq, and_true] at e1
    obtain ⟨rfl, rfl⟩ := e1
    rw [Nat.zero_add] at e2
    exact e2

theorem unit_any (n : Nat) (h1 : 1 ≤ n) (h2 : n ≤ 255) (w : World) :
    Calls Tryz.prog 166 #[.int .i64 n] w fun e w' => ∃ g vs, e = .returned (.slice (some ⟨g, 0, none⟩) n n) ∧ ORows w' w.heap.size g n vs (Mat.unit n) ∧ Ext w w' := by
  go_enter Tryz.func166, Tryz.ntmps166
  go_wp2_with fail
  refine (side_yes n (by omega) _).mono ?_; rintro e w' ⟨rfl, rfl⟩
  go_wp2_with fail
  refine (blank_any n n (by omega) (by omega) _).mono ?_; rintro e w1 ⟨g, vs, rfl, hO, hx1⟩
  have hO1 := Lib.hid hO
  have hg := hO.base
  clear hO
  go_wp2_with fail
  go_loopw [13] (fun v8 wr => ∃ (i : Nat) (ls : List (List UInt8)), i ≤ n ∧ v8 = .int .i64 (i : Nat) ∧ Hid (ORows wr w.heap.size g n vs ls) ∧ Hid (∀ j, j < n → ls[j]? = some (if j < i then (List.replicate n 0).set j 1 else List.replicate n 0)) ∧ Below w.heap.size w wr) (fun v8 _ => (n - intOf v8).toNat)
  case atStart => exact ⟨0, _, by omega, rfl, hO1, Lib.hid fun j h => by rw [List.getElem?_replicate, if_pos h, if_neg (by omega)], hx1⟩
  case round =>
    obtain ⟨i, ls, hi, rfl, hR, hJ, hBr⟩ := hrel
    by_cases hlt : i < n
    · have hl0 : ls[i]? = some (List.replicate n 0) := by rw [hJ.out i hlt, if_neg (by omega)]
      obtain ⟨b, cap, hv, hb, c1, c2, u2⟩ := hR.out.rowAt hl0 (by simp; omega)
      rw [List.length_replicate] at hv c1
      have c3 := c2 i 0 (by rw [List.getElem?_replicate, if_pos hlt])
      have u3 := u2 i
      have hlt' : (i : Int) < (n : Int) := by omega
      have hst := Lib.hid (hR.out.poke hv hl0 i 1)
      have hBw := Below.set hBr hb i (bv 1)
      clear c2 u2 hv hl0
      have hil : i < ls.length := by have := hR.out.llen; omega
      go_wp2_with fail
      refine ⟨⟨i + 1, _, by omega, by go_num, hst, Lib.hid fun j hj => ?_, hBw⟩, by simp [intOf]; omega⟩
      rw [List.getElem?_set]
      by_cases e : i = j
      · rw [if_pos e, if_pos hil, if_pos (by omega), e]
      · rw [if_neg e, hJ.out j hj]
        by_cases e2 : j < i
        · rw [if_pos e2, if_pos (by omega)]
        · rw [if_neg e2, if_neg (by omega)]
    · obtain rfl : i = n := by omega
      have hle : ls = Mat.unit i := by
        have hll := hR.out.llen
        apply List.ext_getElem?
        intro j
        unfold Mat.unit
        by_cases hj : j < i
        · rw [hJ.out j hj, if_pos hj]; simp [hj]
        · rw [List.getElem?_eq_none (by omega), List.getElem?_eq_none (by simp; omega)]
      have hR2 := hR.out
      rw [hle] at hR2
      have hR3 := Lib.hid hR2
      clear hR2 hle hJ hR hlt
      go_wp2_with fail
      go_ret
      exact ⟨_, _, rfl, hR3.out, hBr⟩

theorem clone_any (v : Value) (ls : List (List UInt8)) (hl : ls.length ≤ 70000) (hr : ∀ r ∈ ls, r.length ≤ 140737488351232) (w : World) (hV : BRows w v ls) :
    Calls Tryz.prog 165 #[v] w fun e w' => ∃ g, e = .returned (.slice (some ⟨g, 0, none⟩) ls.length ls.length) ∧ MR w' w.heap.size g ls ∧ Ext w w' := by
  obtain ⟨a, n, cap, rfl⟩ : ∃ a n cap, v = .slice a n cap := by obtain ⟨vs, ⟨a, cap, e, _⟩, _⟩ := hV; exact ⟨_, _, _, e⟩
  obtain rfl := hV.len
  have HV := Lib.hid hV
  have HE := Lib.hid hr
  clear hV hr
  have hm1 := make_mat ls.length hl
  go_enter Tryz.func165, Tryz.ntmps165
  go_wp2_with fail
  have hO := Lib.hid (MR.start w w.heap.size ls.length (Nat.le_refl _))
  have hB := (Ext.refl w).alloc (Nat.le_refl _) (.cells (Array.replicate ls.length (.slice none 0 0)) 24)
  generalize hw1 : w.alloc (.cells (Array.replicate ls.length (.slice none 0 0)) 24) = w1 at hO hB ⊢
  clear hw1 hm1
  go_loopw [11] (fun v11 wr => ∃ (i : Nat) (ks : List (List UInt8)), i ≤ ls.length ∧ v11 = .int .i64 (i : Nat) ∧ ks.length = ls.length ∧ Hid (MR wr w.heap.size w.heap.size ks) ∧ Hid (∀ j, j < i → ks[j]? = ls[j]?) ∧ Below w.heap.size w wr) (fun v11 _ => (ls.length - intOf v11).toNat)
  case atStart => exact ⟨0, _, by omega, rfl, by simp, hO, Lib.hid fun j h => by omega, hB⟩
  case round =>
    obtain ⟨i, ks, hi, rfl, hk, hR, hJ, hBr⟩ := hrel
    by_cases hlt : i < ls.length
    · obtain ⟨rb, ro, ra, rc, rfl, c1, hb⟩ := (HV.out.ext hBr).at (List.getElem?_eq_getElem hlt)
      have hrl := HE.out ls[i] (List.getElem_mem hlt)
      have HB := Lib.hid hb
      clear hb
      have hik : i < ks.length := by omega
      go_wp2_with fail
      refine (bclone_any _ ls[i] hrl _ HB.out).mono ?_; rintro e w2 ⟨u, rfl, hU, hx2⟩
      obtain ⟨ua, uc, rfl⟩ := hU.slice
      have hR2 := Lib.hid (hR.out.ext hx2)
      obtain ⟨qa, qc, c2, _⟩ := hR2.out.at (List.getElem?_eq_getElem hik)
      have u2 := hR2.out.unfrozen i
      have hst := Lib.hid (hR2.out.set hU i)
      have hBw := Below.set (Ext.trans hBr hx2) (Nat.le_refl w.heap.size) i (.slice ua ls[i].length uc)
      clear c1
      go_wp2_with fail
      refine ⟨⟨i + 1, _, by omega, by go_num, by simp [hk], hst, Lib.hid fun j hj => ?_, hBw⟩, by simp [intOf]; omega⟩
      rw [List.getElem?_set]
      by_cases e : i = j
      · rw [if_pos e, if_pos hik, ← e, List.getElem?_eq_getElem hlt]
      · rw [if_neg e, hJ.out j (by omega)]
    · obtain rfl : i = ls.length := by omega
      have hle : ks = ls := by
        apply List.ext_getElem?
        intro j
        by_cases hj : j < ls.length
        · exact hJ.out j hj
        · rw [List.getElem?_eq_none (by omega), List.getElem?_eq_none (by omega)]
      subst hle
      clear hJ hlt
      go_wp2_with fail
      go_ret
      exact ⟨_, rfl, hR.out, hBr⟩
end Go.Proofs.YthkbbcdnmdjhdaaGreat
/-! XMxD: matrix.pivot. -/
namespace Go.Proofs.YthkbbcdnmdjhdaaGreat
open Go.RowKit
set_option maxRecDepth 100000
set_option maxHeartbeats 4000000
attribute [local go_sem] min_int2 max_int2

theorem MR.drew {w : World} {B g : Nat} {ls : List (List UInt8)} (h : MR w B g ls) : MR w.drew B g ls := h.ext (Ext.of_drawn w 1)
theorem MR.swap {w : World} {B g : Nat} {x : Mat.M} (h : MR w B g x) (c p : Nat) {vc vp : Value} (b1 : Bytes w vc (x.getD c [])) (b2 : Bytes w vp (x.getD p [])) :
    MR (((w.setCell ⟨g, c, none⟩ vp).setCell ⟨g, p, none⟩ vc).drew) B g (Mat.swap x c p) := by
  have h1 := h.set b2 c
  have h2 := h1.set (b1.other h c vp) p
  exact h2.drew
theorem pivot_any (n c B g h : Nat) (x y : Mat.M) (hn : n ≤ 70000) (hc : c < n) (hx : Mat.Sh x n n) (hy : Mat.Sh y n n) (w : World) (hX : MR w B g x) (hY : MR w B h y) (hgh : h ≠ g) :
    Calls Tryz.prog 167 #[.slice (some ⟨g, 0, none⟩) n n, .slice (some ⟨h, 0, none⟩) n n, .int .i64 c] w fun e w' =>
      (Mat.pv x n c = none ∧ e = .returned (.bool false) ∧ Below B w w') ∨ (∃ p, Mat.pv x n c = some p ∧ e = .returned (.bool true) ∧ MR w' B g (Mat.swap x c p) ∧ MR w' B h (Mat.swap y c p) ∧ Below B w w') := by
  have HX := Lib.hid hX
  have HY := Lib.hid hY
  have SX := Lib.hid hx
  have SY := Lib.hid hy
  clear hX hY hx hy
  go_enter Tryz.func167, Tryz.ntmps167
  go_wp2_with fail
  go_loop [7] (fun v6 => ∃ p : Nat, c ≤ p ∧ p ≤ n ∧ v6 = .int .i64 (p : Nat) ∧ Hid (Mat.pv x n c = Mat.pvf x c (n - p) p)) (fun v6 => (n - intOf v6).toNat)
  case atStart => exact ⟨c, by omega, by omega, rfl, Lib.hid rfl⟩
  case round =>
    obtain ⟨p, hcp, hp, rfl, hJ⟩ := hrel
    by_cases hlt : p < n
    · have hxl : x.length = n := SX.out.1
      have hlt' : (p : Int) < (n : Int) := by omega
      obtain ⟨ra, rc, c1, hb⟩ := HX.out.at (List.getElem?_eq_getElem (show p < x.length by omega))
      obtain ⟨z, hz⟩ : ∃ z, x[p][c]? = some z := ⟨x[p][c]'(by have := SX.out.2 x[p] (List.getElem_mem _); omega), List.getElem?_eq_getElem _⟩
      have hen : Mat.en x p c = z := by
        unfold Mat.en
        rw [Mat.getD_lt (by omega : p < x.length), List.getD_eq_getElem?_getD, hz]; rfl
      obtain ⟨b, o, rfl, c2⟩ := hb.at (j := c) (u := bv z) (by simp [hz])
      have hxp : x[p].length = n := SX.out.2 x[p] (List.getElem_mem _)
      rw [hxp] at c1
      have HEN := Lib.hid hen
      have HB := Lib.hid hb
      rw [hxp] at HB
      clear hb hz hen hxp
      by_cases h0 : z = 0
      · have h0' : ((z.toNat : Int) != 0) = false := by rw [h0]; rfl
        have H0 := Lib.hid h0
        clear h0
        go_wp2_with fail
        refine ⟨⟨p + 1, by omega, by omega, by go_num, Lib.hid ?_⟩, by simp [intOf]; omega⟩
        rw [hJ.out, show n - p = (n - (p + 1)) + 1 by omega]
        show (if Mat.en x p c = 0 then _ else _) = _
        rw [HEN.out, if_pos H0.out]
      · have h0' : ((z.toNat : Int) != 0) = true := by
          have : z.toNat ≠ 0 := fun h => h0 (UInt8.toNat_inj.1 h)
          simp; omega
        have hpv : Mat.pv x n c = some p := by
          rw [hJ.out, show n - p = (n - (p + 1)) + 1 by omega]
          show (if Mat.en x p c = 0 then _ else _) = _
          rw [HEN.out, if_neg h0]
        have HPV := Lib.hid hpv
        clear hpv
        have hyl : y.length = n := SY.out.1
        have u4 := HX.out.unfrozen p
        have v4 := HY.out.unfrozen p
        have kp : Bytes w (.slice (some ⟨b, o, none⟩) n rc) (x.getD p []) := by rw [Mat.getD_lt (by omega : p < x.length)]; exact HB.out
        have KP := Lib.hid kp
        clear kp
        by_cases hpc : p = c
        · subst hpc
          have HX1 := Lib.hid (HX.out.swap p p KP.out KP.out)
          have HY1 := Lib.hid ((HY.out.set_other HX.out (fun e => hgh e.symm) p (.slice (some ⟨b, o, none⟩) n rc)).set_other (HX.out.set KP.out p) (fun e => hgh e.symm) p (.slice (some ⟨b, o, none⟩) n rc)).drew
          have hB1 := Lib.hid (Below.drew (Below.set (Below.set (Below.refl B w) HX.out.base p (.slice (some ⟨b, o, none⟩) n rc)) HX.out.base p (.slice (some ⟨b, o, none⟩) n rc)))
          go_wp2_with fail
          go_region
          go_wp2_with fail
          generalize ((w.setCell ⟨g, p, none⟩ (.slice (some ⟨b, o, none⟩) n rc)).setCell ⟨g, p, none⟩ (.slice (some ⟨b, o, none⟩) n rc)).drew = w1 at HX1 HY1 hB1 ⊢
          clear c1 c2 u4 v4
          obtain ⟨ya, yc, d1, e1⟩ := HY1.out.at (List.getElem?_eq_getElem (show p < y.length by omega))
          rw [SY.out.2 y[p] (List.getElem_mem _)] at d1 e1
          have kp : Bytes w1 (.slice ya n yc) (y.getD p []) := by rw [Mat.getD_lt (by omega : p < y.length)]; exact e1
          have w4 := HY1.out.unfrozen p
          have HY2 := Lib.hid (HY1.out.swap p p kp kp)
          have HX2 := Lib.hid ((HX1.out.set_other HY1.out hgh p (.slice ya n yc)).set_other (HY1.out.set kp p) hgh p (.slice ya n yc)).drew
          have hB2 := Lib.hid (Below.drew (Below.set (Below.set hB1.out HY1.out.base p (.slice ya n yc)) HY1.out.base p (.slice ya n yc)))
          clear kp e1
          go_region
          go_wp2_with fail
          go_ret
          exact .inr ⟨p, HPV.out, rfl, HX2.out, HY2.out, hB2.out⟩
        · have hpc2 : c ≠ p := fun h => hpc h.symm
          obtain ⟨xa, xc, c3, b3⟩ := HX.out.at (List.getElem?_eq_getElem (show c < x.length by omega))
          rw [SX.out.2 x[c] (List.getElem_mem _)] at c3 b3
          have u3 := HX.out.unfrozen c
          have kc : Bytes w (.slice xa n xc) (x.getD c []) := by rw [Mat.getD_lt (by omega : c < x.length)]; exact b3
          have HX1 := Lib.hid (HX.out.swap c p kc KP.out)
          have HY1 := Lib.hid ((HY.out.set_other HX.out (fun e => hgh e.symm) c (.slice (some ⟨b, o, none⟩) n rc)).set_other (HX.out.set KP.out c) (fun e => hgh e.symm) p (.slice xa n xc)).drew
          have hB1 := Lib.hid (Below.drew (Below.set (Below.set (Below.refl B w) HX.out.base c (.slice (some ⟨b, o, none⟩) n rc)) HX.out.base p (.slice xa n xc)))
          clear kc b3
          go_wp2_with fail
          go_region
          go_wp2_with fail
          generalize ((w.setCell ⟨g, c, none⟩ (.slice (some ⟨b, o, none⟩) n rc)).setCell ⟨g, p, none⟩ (.slice xa n xc)).drew = w1 at HX1 HY1 hB1 ⊢
          clear c1 c2 c3 u3 u4 v4
          obtain ⟨ya, yc, d1, e1⟩ := HY1.out.at (List.getElem?_eq_getElem (show p < y.length by omega))
          rw [SY.out.2 y[p] (List.getElem_mem _)] at d1 e1
          have kp : Bytes w1 (.slice ya n yc) (y.getD p []) := by rw [Mat.getD_lt (by omega : p < y.length)]; exact e1
          obtain ⟨ya2, yc2, d2, e2⟩ := HY1.out.at (List.getElem?_eq_getElem (show c < y.length by omega))
          rw [SY.out.2 y[c] (List.getElem_mem _)] at d2 e2
          have kc : Bytes w1 (.slice ya2 n yc2) (y.getD c []) := by rw [Mat.getD_lt (by omega : c < y.length)]; exact e2
          have w3 := HY1.out.unfrozen c
          have w4 := HY1.out.unfrozen p
          have HY2 := Lib.hid (HY1.out.swap c p kc kp)
          have HX2 := Lib.hid ((HX1.out.set_other HY1.out hgh c (.slice ya n yc)).set_other (HY1.out.set kp c) hgh p (.slice ya2 n yc2)).drew
          have hB2 := Lib.hid (Below.drew (Below.set (Below.set hB1.out HY1.out.base c (.slice ya n yc)) HY1.out.base p (.slice ya2 n yc2)))
          clear kp kc e1 e2
          go_region
          go_wp2_with fail
          go_ret
          exact .inr ⟨p, HPV.out, rfl, HX2.out, HY2.out, hB2.out⟩
    · obtain rfl : p = n := by omega
      have hpv : Mat.pv x p c = none := by
        rw [hJ.out, Nat.sub_self]; rfl
      have HPV := Lib.hid hpv
      clear hlt hpv
      go_wp2_with fail
      go_ret
      exact .inl ⟨HPV.out, rfl, Below.refl _ _⟩
end Go.Proofs.YthkbbcdnmdjhdaaGreat
/-! XMxE: matrix.good, matrix.Square. -/
namespace Go.Proofs.YthkbbcdnmdjhdaaGreat
open Go.RowKit
set_option maxRecDepth 100000
set_option maxHeartbeats 4000000
attribute [local go_sem] min_int2 max_int2

theorem hmf_any : ∀ (fn : Fn) (first cap : Array Value) (w : World), (Instr.makeFunc fn first cap).run Tryz.prog w = .ok (.func fn first cap) w := fun _ _ _ _ => rfl

/-- The literal in good: a row's length is not the first row's. B: where the variable a lies. -/
theorem bne_len (a b : Nat) : ((a : Int) != (b : Int)) = decide (a ≠ b) := by
  by_cases h : a = b
  · subst h; simp
  · rw [decide_eq_true h]; simp; omega
/-- The literal in good: a row's length is not the first row's. B: where the variable a lies. -/
theorem lit_any (B : Nat) (a : Option Addr) (cap : Nat) (ls : List (List UInt8)) (h0 : 0 < ls.length) (r : Value) (l : List UInt8) (w : World) (hB : w.cell? ⟨B, 0, none⟩ = some (.slice a ls.length cap)) (hV : BRows w (.slice a ls.length cap) ls) (hr : Bytes w r l) :
    Calls Tryz.prog 186 #[r, .pointer (some ⟨B, 0, none⟩)] w fun e w' => e = .returned (.bool (decide (l.length ≠ ls[0].length))) ∧ w = w' := by
  obtain ⟨ra, rc, rfl⟩ := hr.slice
  obtain ⟨rb, ro, qa, qc, rfl, c1, hb⟩ := hV.at (List.getElem?_eq_getElem h0)
  rw [Nat.add_zero] at c1
  clear hb hr
  go_enter Tryz.func186, Tryz.ntmps186
  go_wp2_with fail
  go_ret
  exact ⟨ret_b (bne_len _ _), rfl⟩

theorem idx_any (B : Nat) (a : Option Addr) (cap : Nat) (ls : List (List UInt8)) (h0 : 0 < ls.length) (hl : ls.length ≤ maxLen) (w : World) (hB : w.cell? ⟨B, 0, none⟩ = some (.slice a ls.length cap)) (hV : BRows w (.slice a ls.length cap) ls) :
    Calls Tryz.prog 187 #[.slice a ls.length cap, .func (.func 186) #[] #[.pointer (some ⟨B, 0, none⟩)]] w fun e w' =>
      ∃ z : Int, e = .returned (.int .i64 z) ∧ (0 ≤ z ↔ ∃ r ∈ ls, r.length ≠ ls[0].length) ∧ Ext w w' := by
  have HV := Lib.hid hV
  have HB := Lib.hid hB
  unfold maxLen at hl
  clear hB hV
  go_enter Tryz.func187, Tryz.ntmps187
  go_wp2_with fail
  go_loopw [8] (fun v9 wr => ∃ i : Nat, i ≤ ls.length ∧ v9 = .int .i64 i ∧ Hid (∀ j r, j < i → ls[j]? = some r → r.length = ls[0].length) ∧ Below w.heap.size w wr) (fun v9 _ => (ls.length - intOf v9).toNat)
  case atStart => exact ⟨0, by omega, rfl, Lib.hid fun j r h => by omega, Ext.refl _⟩
  case round =>
    obtain ⟨i, hi, rfl, hJ, hBr⟩ := hrel
    by_cases hlt : i < ls.length
    · have HV1 := Lib.hid (HV.out.ext hBr)
      have HB1 := Lib.hid (Ext.cell hBr HB.out)
      obtain ⟨rb, ro, ra, rc, e1, c1, hb⟩ := HV1.out.at (List.getElem?_eq_getElem hlt)
      subst e1
      have HBB := Lib.hid hb
      have hlt' : (i : Int) < (ls.length : Int) := by omega
      clear hb
      have key : ∃ d : Bool, decide (ls[i].length ≠ ls[0].length) = d := ⟨_, rfl⟩
      obtain ⟨d, hd⟩ := key
      have lit : ∀ w', w' = wr → Calls Tryz.prog 186 #[.slice ra ls[i].length rc, .pointer (some ⟨B, 0, none⟩)] w' fun e w'' => e = .returned (.bool d) ∧ w' = w'' := by
        intro w' e
        subst e
        rw [← hd]
        exact lit_any B _ cap ls h0 _ ls[i] _ HB1.out HV1.out HBB.out
      have HD := Lib.hid hd
      clear hd
      cases d
      · go_wp2_with fail
        refine (lit _ rfl).mono ?_; rintro e w' ⟨rfl, rfl⟩
        clear lit
        go_wp2_with fail
        refine ⟨⟨i + 1, by omega, by go_num, Lib.hid fun j r hj hr => ?_, hBr⟩, by simp [intOf]; omega⟩
        by_cases e : j = i
        · subst e
          rw [List.getElem?_eq_getElem hlt] at hr
          cases hr
          have := HD.out
          exact Decidable.not_not.1 (of_decide_eq_false this)
        · exact hJ.out j r (by omega) hr
      · go_wp2_with fail
        refine (lit _ rfl).mono ?_; rintro e w' ⟨rfl, rfl⟩
        clear lit
        go_wp2_with fail
        go_ret
        exact ⟨i, rfl, ⟨fun _ => ⟨ls[i], List.getElem_mem _, of_decide_eq_true HD.out⟩, fun _ => by omega⟩, hBr⟩
    · have HQ : Hid (¬ ∃ r ∈ ls, r.length ≠ ls[0].length) := Lib.hid fun ⟨r, hr, hn⟩ => by
        obtain ⟨j, hj⟩ := List.getElem?_of_mem hr
        have := (List.getElem?_eq_some_iff.1 hj).1
        exact hn (hJ.out j r (by omega) hj)
      have e : i = ls.length := by omega
      have hlt' : ¬ (i : Int) < (ls.length : Int) := by omega
      clear hJ e
      go_wp2_with fail
      go_ret
      exact ⟨-1, rfl, ⟨fun h => by omega, fun h => absurd h HQ.out⟩, hBr⟩

theorem cont_any (B : Nat) (a : Option Addr) (cap : Nat) (ls : List (List UInt8)) (h0 : 0 < ls.length) (hl : ls.length ≤ maxLen) (d : Bool) (hd : d = true ↔ ∃ r ∈ ls, r.length ≠ ls[0].length) (w : World) (hB : w.cell? ⟨B, 0, none⟩ = some (.slice a ls.length cap)) (hV : BRows w (.slice a ls.length cap) ls) :
    Calls Tryz.prog 185 #[.slice a ls.length cap, .func (.func 186) #[] #[.pointer (some ⟨B, 0, none⟩)]] w fun e w' =>
      e = .returned (.bool d) ∧ Ext w w' := by
  have HV := Lib.hid hV
  have HB := Lib.hid hB
  have HD := Lib.hid hd
  clear hB hV hd
  go_enter Tryz.func185, Tryz.ntmps185
  go_wp2_with fail
  refine (idx_any B a cap ls h0 hl _ HB.out HV.out).mono ?_; rintro e w' ⟨z, rfl, hz, hx⟩
  have HZ := Lib.hid hz
  clear hz
  go_wp2_with fail
  go_ret
  refine ⟨ret_b ?_, hx⟩
  cases d with
  | true => exact decide_eq_true (HZ.out.2 (HD.out.1 rfl))
  | false => exact decide_eq_false fun h => by have := HD.out.2 (HZ.out.1 h); cases this
end Go.Proofs.YthkbbcdnmdjhdaaGreat
/-! XMxF: matrix.good, matrix.Square. -/
namespace Go.Proofs.YthkbbcdnmdjhdaaGreat
open Go.RowKit
set_option maxRecDepth 100000
set_option maxHeartbeats 4000000
attribute [local go_sem] min_int2 max_int2

theorem good_sides (v : Value) (ls : List (List UInt8)) (d : Bool) (h1 : 1 ≤ ls.length) (h2 : ls.length ≤ 255) (h3 : 1 ≤ (ls.getD 0 []).length) (h4 : (ls.getD 0 []).length ≤ 255) (hd : d = true ↔ ∃ r ∈ ls, r.length ≠ (ls.getD 0 []).length) (w : World) (hV : BRows w v ls) :
    Calls Tryz.prog 170 #[v] w fun e w' => e = .returned (.bool (!d)) ∧ Ext w w' := by
  obtain ⟨a, n, cap, rfl⟩ : ∃ a n cap, v = .slice a n cap := by obtain ⟨vs, ⟨a, cap, e, _⟩, _⟩ := hV; exact ⟨_, _, _, e⟩
  obtain rfl := hV.len
  have h0 : 0 < ls.length := by omega
  rw [Mat.getD_lt h0] at h3 h4 hd
  obtain ⟨rb, ro, qa, qc, rfl, c1, hb⟩ := hV.at (List.getElem?_eq_getElem h0)
  rw [Nat.add_zero] at c1
  have HV := Lib.hid hV
  have HD := Lib.hid hd
  have C1 := Lib.hid c1
  clear hV hd hb c1
  have hmf := hmf_any
  have xa := Lib.hid ((Ext.refl w).alloc (Nat.le_refl _) (.cells #[.slice (some ⟨rb, ro, none⟩) ls.length cap] 216))
  have c1 := Ext.cell xa.out C1.out
  have HB : Hid ((w.alloc (.cells #[.slice (some ⟨rb, ro, none⟩) ls.length cap] 216)).cell? ⟨w.heap.size, 0, none⟩ = some (.slice (some ⟨rb, ro, none⟩) ls.length cap)) := Lib.hid ((Row.new w _ _).cell rfl)
  have c2 := HB.out
  have HV1 := Lib.hid (HV.out.ext xa.out)
  go_enter Tryz.func170, Tryz.ntmps170
  go_wp2_with fail
  refine (side_yes ls.length (by omega) _).mono ?_; rintro e w' ⟨rfl, rfl⟩
  go_wp2_with fail
  refine (side_yes ls[0].length (by omega) _).mono ?_; rintro e w' ⟨rfl, rfl⟩
  go_wp2_with fail
  refine (cont_any w.heap.size _ cap ls h0 (by unfold maxLen; omega) d HD.out _ HB.out HV1.out).mono ?_; rintro e w2 ⟨rfl, hx2⟩
  have X2 := Ext.trans xa.out hx2
  clear c1 c2 xa hmf
  go_wp2_with fail
  go_ret
  exact ⟨rfl, X2⟩

theorem good_one (v : Value) (ls : List (List UInt8)) (h : ¬ (1 ≤ ls.length ∧ ls.length ≤ 255)) (w : World) (hV : BRows w v ls) :
    Calls Tryz.prog 170 #[v] w fun e w' => e = .returned (.bool false) ∧ Ext w w' := by
  obtain ⟨a, n, cap, rfl⟩ : ∃ a n cap, v = .slice a n cap := by obtain ⟨vs, ⟨a, cap, e, _⟩, _⟩ := hV; exact ⟨_, _, _, e⟩
  obtain rfl := hV.len
  have xa := Lib.hid ((Ext.refl w).alloc (Nat.le_refl _) (.cells #[.slice a ls.length cap] 216))
  have c2 : (w.alloc (.cells #[.slice a ls.length cap] 216)).cell? ⟨w.heap.size, 0, none⟩ = some (.slice a ls.length cap) := (Row.new w _ _).cell rfl
  have HN := Lib.hid h
  clear hV h
  go_enter Tryz.func170, Tryz.ntmps170
  go_wp2_with fail
  refine (side_no ls.length (by have := HN.out; omega) _).mono ?_; rintro e w' ⟨rfl, rfl⟩
  go_wp2_with fail
  go_ret
  exact ⟨rfl, xa.out⟩

theorem good_two (v : Value) (ls : List (List UInt8)) (h1 : 1 ≤ ls.length) (h2 : ls.length ≤ 255) (h : ¬ (1 ≤ (ls.getD 0 []).length ∧ (ls.getD 0 []).length ≤ 255)) (w : World) (hV : BRows w v ls) :
    Calls Tryz.prog 170 #[v] w fun e w' => e = .returned (.bool false) ∧ Ext w w' := by
  obtain ⟨a, n, cap, rfl⟩ : ∃ a n cap, v = .slice a n cap := by obtain ⟨vs, ⟨a, cap, e, _⟩, _⟩ := hV; exact ⟨_, _, _, e⟩
  obtain rfl := hV.len
  have h0 : 0 < ls.length := by omega
  rw [Mat.getD_lt h0] at h
  obtain ⟨rb, ro, qa, qc, rfl, c1, hb⟩ := hV.at (List.getElem?_eq_getElem h0)
  rw [Nat.add_zero] at c1
  have C1 := Lib.hid c1
  have HN := Lib.hid h
  clear hV hb c1 h
  have xa := Lib.hid ((Ext.refl w).alloc (Nat.le_refl _) (.cells #[.slice (some ⟨rb, ro, none⟩) ls.length cap] 216))
  have c1 := Ext.cell xa.out C1.out
  have c2 : (w.alloc (.cells #[.slice (some ⟨rb, ro, none⟩) ls.length cap] 216)).cell? ⟨w.heap.size, 0, none⟩ = some (.slice (some ⟨rb, ro, none⟩) ls.length cap) := (Row.new w _ _).cell rfl
  go_enter Tryz.func170, Tryz.ntmps170
  go_wp2_with fail
  refine (side_yes ls.length (by omega) _).mono ?_; rintro e w' ⟨rfl, rfl⟩
  go_wp2_with fail
  refine (side_no ls[0].length (by have := HN.out; omega) _).mono ?_; rintro e w' ⟨rfl, rfl⟩
  go_wp2_with fail
  go_ret
  exact ⟨rfl, xa.out⟩

/-- good, whole. -/
theorem good_any (v : Value) (ls : List (List UInt8)) (d : Bool) (hd : d = true ↔ Mat.Good ls) (w : World) (hV : BRows w v ls) :
    Calls Tryz.prog 170 #[v] w fun e w' => e = .returned (.bool d) ∧ Ext w w' := by
  rw [Mat.good_iff] at hd
  by_cases h1 : 1 ≤ ls.length ∧ ls.length ≤ 255
  · by_cases h2 : 1 ≤ (ls.getD 0 []).length ∧ (ls.getD 0 []).length ≤ 255
    · have h := good_sides v ls (!d) h1.1 h1.2 h2.1 h2.2 (by
        cases d with
        | true => 
          have := hd.1 rfl
          constructor
          · intro h; cases h
          · rintro ⟨r, hr, hn⟩; exact absurd (this.2.2.2.2 r hr) hn
        | false =>
          constructor
          · intro _
            refine Classical.byContradiction fun hc => ?_
            have : false = true := hd.2 ⟨h1.1, h1.2, h2.1, h2.2, fun r hr => Classical.byContradiction fun hn => hc ⟨r, hr, hn⟩⟩
            cases this
          · intro _; rfl) w hV
      rw [Bool.not_not] at h
      exact h
    · have : d = false := by
        cases d with
        | false => rfl
        | true => exact absurd ⟨(hd.1 rfl).2.2.1, (hd.1 rfl).2.2.2.1⟩ h2
      rw [this]
      exact good_two v ls h1.1 h1.2 h2 w hV
  · have : d = false := by
      cases d with
      | false => rfl
      | true => exact absurd ⟨(hd.1 rfl).1, (hd.1 rfl).2.1⟩ h1
    rw [this]
    exact good_one v ls h1 w hV
theorem good_yes (v : Value) (ls : List (List UInt8)) (n m : Nat) (h1 : 1 ≤ n) (h2 : n ≤ 255) (h3 : 1 ≤ m) (h4 : m ≤ 255) (h : Mat.Sh ls n m) (w : World) (hV : BRows w v ls) :
    Calls Tryz.prog 170 #[v] w fun e w' => e = .returned (.bool true) ∧ Ext w w' :=
  good_any v ls true ⟨fun _ => ⟨n, m, h1, h2, h3, h4, h⟩, fun _ => rfl⟩ w hV
theorem good_no (v : Value) (ls : List (List UInt8)) (h : ¬ Mat.Good ls) (w : World) (hV : BRows w v ls) :
    Calls Tryz.prog 170 #[v] w fun e w' => e = .returned (.bool false) ∧ Ext w w' :=
  good_any v ls false ⟨fun e => (Bool.noConfusion e), fun k => absurd k h⟩ w hV

/-- Square. -/
theorem square_no (v : Value) (ls : List (List UInt8)) (h : ¬ Mat.Good ls) (w : World) (hV : BRows w v ls) :
    Calls Tryz.prog 164 #[v] w fun e w' => e = .returned (.bool false) ∧ Ext w w' := by
  obtain ⟨a, n, cap, rfl⟩ : ∃ a n cap, v = .slice a n cap := by obtain ⟨vs, ⟨a, cap, e, _⟩, _⟩ := hV; exact ⟨_, _, _, e⟩
  have HV := Lib.hid hV
  have HN := Lib.hid h
  clear hV h
  go_enter Tryz.func164, Tryz.ntmps164
  go_wp2_with fail
  refine (good_no _ ls HN.out _ HV.out).mono ?_; rintro e w1 ⟨rfl, hx⟩
  have X := Lib.hid hx
  clear hx
  go_wp2_with fail
  go_ret
  exact ⟨rfl, X.out⟩
theorem square_good (v : Value) (ls : List (List UInt8)) (n m : Nat) (h1 : 1 ≤ n) (h2 : n ≤ 255) (h3 : 1 ≤ m) (h4 : m ≤ 255) (h : Mat.Sh ls n m) (w : World) (hV : BRows w v ls) :
    Calls Tryz.prog 164 #[v] w fun e w' => e = .returned (.bool (decide (n = m))) ∧ Ext w w' := by
  obtain ⟨a, n', cap, rfl⟩ : ∃ a n cap, v = .slice a n cap := by obtain ⟨vs, ⟨a, cap, e, _⟩, _⟩ := hV; exact ⟨_, _, _, e⟩
  obtain rfl := hV.len
  obtain ⟨e1, e2⟩ := h
  subst e1
  have h0 : 0 < ls.length := by omega
  have e3 := e2 ls[0] (List.getElem_mem _)
  have HV := Lib.hid hV
  have HS := Lib.hid e2
  obtain ⟨rb, ro, qa, qc, rfl, c1, hb⟩ := hV.at (List.getElem?_eq_getElem h0)
  rw [Nat.add_zero, e3] at c1
  have C1 := Lib.hid c1
  clear hV hb c1 e2 e3
  go_enter Tryz.func164, Tryz.ntmps164
  go_wp2_with fail
  refine (good_yes _ ls ls.length m h1 h2 h3 h4 ⟨rfl, HS.out⟩ _ HV.out).mono ?_; rintro e w1 ⟨rfl, hx⟩
  have c1 := Ext.cell hx C1.out
  have X := Lib.hid hx
  clear hx
  go_wp2_with fail
  go_ret
  exact ⟨ret_b (by by_cases e : ls.length = m <;> simp [e] <;> omega), X.out⟩
end Go.Proofs.YthkbbcdnmdjhdaaGreat
/-! XMxG: matrix.Vandermonde. -/
namespace Go.Proofs.YthkbbcdnmdjhdaaGreat
open Go.RowKit Gf
set_option maxRecDepth 100000
set_option maxHeartbeats 4000000
attribute [local go_sem] min_int2 max_int2

/-- A row of powers, the first j of them. -/
def vrow (r c j : Nat) : List UInt8 := (List.range c).map fun k => if k < j then Mat.pw (UInt8.ofNat r) k else 0
theorem vrow_len (r c j : Nat) : (vrow r c j).length = c := by simp [vrow]
theorem vrow_zero (r c : Nat) : vrow r c 0 = List.replicate c 0 := by
  unfold vrow
  simp [List.map_const']
theorem vrow_full (r c : Nat) : vrow r c c = (List.range c).map fun k => Mat.pw (UInt8.ofNat r) k :=
  List.map_congr_left fun k hk => by rw [if_pos (List.mem_range.1 hk)]
theorem vrow_get (r c j : Nat) (h : j < c) : (vrow r c j)[j]? = some 0 := by simp [vrow, h]
theorem vrow_succ (r c j : Nat) (h : j < c) : (vrow r c j).set j (Mat.pw (UInt8.ofNat r) j) = vrow r c (j + 1) := by
  unfold vrow
  apply List.ext_getElem?
  intro k
  rw [List.getElem?_set]
  by_cases e : j = k
  · subst e; simp [h]
  · rw [if_neg e]
    simp only [List.getElem?_map]
    by_cases hk : k < c
    · simp [hk]
      by_cases e2 : k < j
      · rw [if_pos e2, if_pos (by omega)]
      · rw [if_neg e2, if_neg (by omega)]
    · simp [hk]

theorem ORows.mono {w : World} {B B' g k : Nat} {vs : List Value} {ls : List (List UInt8)} (h : ORows w B g k vs ls) (hB : B' ≤ B) : ORows w B' g k vs ls :=
  ⟨h.vlen, h.llen, Nat.le_trans hB h.base, h.row, fun i v l hv hl => ⟨(h.own i v l hv hl).1.mono hB, (h.own i v l hv hl).2⟩, h.apart⟩
theorem vand_any (n c : Nat) (h1 : 1 ≤ n) (h2 : n ≤ 255) (h3 : 1 ≤ c) (h4 : c ≤ 255) (w : World) :
    Calls Tryz.prog 146 #[.int .i64 n, .int .i64 c] w fun e w' => ∃ g vs, e = .returned (.slice (some ⟨g, 0, none⟩) n n) ∧ ORows w' w.heap.size g n vs (Mat.vand n c) ∧ Ext w w' := by
  go_enter Tryz.func146, Tryz.ntmps146
  go_wp2_with fail
  refine (side_yes n (by omega) _).mono ?_; rintro e w' ⟨rfl, rfl⟩
  go_wp2_with fail
  refine (side_yes c (by omega) _).mono ?_; rintro e w' ⟨rfl, rfl⟩
  go_wp2_with fail
  refine (new_any _).mono ?_; rintro e w1 ⟨t, ht, rfl, hT, hx1⟩
  go_wp2_with fail
  refine (blank_any n c (by omega) (by omega) _).mono ?_; rintro e w2 ⟨g, vs, rfl, hO, hx2⟩
  have HT := Lib.hid hT
  have hO1 := Lib.hid hO
  have X1 := Lib.hid hx1
  clear hO hT hx1 ht
  go_wp2_with fail
  go_loopw [22] (fun v8 wr => ∃ (i : Nat) (ls : List (List UInt8)), i ≤ n ∧ v8 = .int .i64 (i : Nat) ∧ Hid (ORows wr w1.heap.size g n vs ls) ∧ Hid (∀ j, j < n → ls[j]? = some (if j < i then vrow j c c else List.replicate c 0)) ∧ Below w1.heap.size w1 wr) (fun v8 _ => (n - intOf v8).toNat)
  case atStart => exact ⟨0, _, by omega, rfl, hO1, Lib.hid fun j h => by rw [List.getElem?_replicate, if_pos h, if_neg (by omega)], hx2⟩
  case round =>
    obtain ⟨i, ls, hi, rfl, hR, hJ, hBr⟩ := hrel
    by_cases hlt : i < n
    · have hl0 : ls[i]? = some (List.replicate c 0) := by rw [hJ.out i hlt, if_neg (by omega)]
      have hlt' : (i : Int) < (n : Int) := by omega
      have hil : i < ls.length := by have := hR.out.llen; omega
      have HL0 := Lib.hid hl0
      clear hl0
      go_wp2_with fail
      go_loopw [26] (fun v26 wr2 => ∃ j : Nat, j ≤ c ∧ v26 = .int .i64 (j : Nat) ∧ Hid (ORows wr2 w1.heap.size g n vs (ls.set i (vrow i c j))) ∧ Below w1.heap.size w1 wr2) (fun v26 _ => (c - intOf v26).toNat)
      case atStart => exact ⟨0, by omega, rfl, Lib.hid (by rw [vrow_zero]; have e : ls.set i (List.replicate c 0) = ls := by { have := Mat.set_self ls i; rw [List.getD_eq_getElem?_getD, HL0.out] at this; exact this }; rw [e]; exact hR.out), hBr⟩
      case round =>
        obtain ⟨j, hj, rfl, hR2, hBr2⟩ := hrel
        rename World => wr2
        by_cases hlt2 : j < c
        · obtain ⟨b, cap, hv, hb, c1, c2, u2⟩ := hR2.out.rowAt (i := i) (l := vrow i c j) (by rw [List.getElem?_set, if_pos rfl, if_pos hil]) (by rw [vrow_len]; omega)
          have hst := (hR2.out.drewN 1).poke hv (by rw [List.getElem?_set, if_pos rfl, if_pos hil]) j (Mat.pw (UInt8.ofNat i) j)
          rw [vrow_succ i c j hlt2, List.set_set] at hst
          rw [vrow_len] at hv c1
          have c3 := c2 j 0 (vrow_get i c j hlt2)
          have u3 := u2 j
          have hlt2' : (j : Int) < (c : Int) := by omega
          have HST := Lib.hid hst
          have hbb := Lib.hid <| Below.set (Ext.trans hBr2 (Ext.of_drawn wr2 1)) hb j (bv (Mat.pw (UInt8.ofNat i) j))
          have hpw := Mat.pw_gpow (UInt8.ofNat i) j (by omega)
          have hui : (UInt8.ofNat i).toNat = i := by rw [UInt8.toNat_ofNat']; exact Nat.mod_eq_of_lt (by omega)
          rw [hui] at hpw
          have pow : ∀ w', Ext wr2 w' → Calls Tryz.prog 163 #[.pointer (some ⟨t, 0, none⟩), .int .u8 i, .int .i64 j] w' fun e w'' => e = .returned (bv (Mat.pw (UInt8.ofNat i) j)) ∧ w' = w'' := by
            intro w' e
            have := tpow_any t i (by omega) j _ (HT.out.ext (Ext.trans hBr2 e))
            rw [hpw] at this
            exact this
          have hwp : IntKind.u8.wrap (i : Int) = (i : Int) := by rw [IntKind.wrap_u8]; omega
          clear c2 u2 hv hst hR2 hpw hui
          go_wp2_with fail
          go_region_with (go_at_call 163; refine (pow _ (Ext.of_drawn _ 1)).mono ?_; rintro e w' ⟨rfl, rfl⟩)
          all_goals
            clear c1 c3 u3 pow hwp
            go_wp2_with fail
            exact ⟨⟨j + 1, by omega, by go_num, HST, hbb.out⟩, by simp [intOf]; omega⟩
        · obtain rfl : j = c := by omega
          clear hlt2
          go_wp2_with fail
          refine ⟨⟨i + 1, _, by omega, by go_num, hR2, Lib.hid fun k hk => ?_, hBr2⟩, by simp [intOf]; omega⟩
          rw [List.getElem?_set]
          by_cases e : i = k
          · rw [if_pos e, if_pos hil, if_pos (by omega), e]
          · rw [if_neg e, hJ.out k hk]
            by_cases e2 : k < i
            · rw [if_pos e2, if_pos (by omega)]
            · rw [if_neg e2, if_neg (by omega)]
    · obtain rfl : i = n := by omega
      have hle : ls = Mat.vand i c := by
        have hll := hR.out.llen
        apply List.ext_getElem?
        intro j
        unfold Mat.vand
        by_cases hj : j < i
        · rw [hJ.out j hj, if_pos hj, vrow_full]; simp [hj]
        · rw [List.getElem?_eq_none (by omega), List.getElem?_eq_none (by simp; omega)]
      have hR2 := hR.out.mono X1.out.size
      rw [hle] at hR2
      have hR3 := Lib.hid hR2
      have HF := Lib.hid (Ext.trans X1.out hBr)
      clear hR2 hle hJ hR hlt
      go_wp2_with fail
      go_ret
      exact ⟨_, _, rfl, hR3.out, HF.out⟩
end Go.Proofs.YthkbbcdnmdjhdaaGreat
/-! XMxH: matrix.Mul. -/
namespace Go.Proofs.YthkbbcdnmdjhdaaGreat
open Go.RowKit Gf
set_option maxRecDepth 100000
set_option maxHeartbeats 4000000
attribute [local go_sem] min_int2 max_int2

theorem MR.mono {w : World} {B B' g : Nat} {ls : List (List UInt8)} (h : MR w B g ls) (hB : B' ≤ B) : MR w B' g ls := by
  obtain ⟨vs, h1, h2, h3⟩ := h
  exact ⟨vs, h1, Nat.le_trans hB h2, h3⟩
theorem BRows.form {w : World} {v : Value} {ls : List (List UInt8)} (hV : BRows w v ls) : ∃ a cap, v = .slice a ls.length cap := by
  obtain ⟨a, n, cap, rfl⟩ : ∃ a n cap, v = .slice a n cap := by obtain ⟨vs, ⟨a, cap, e, _⟩, _⟩ := hV; exact ⟨_, _, _, e⟩
  obtain rfl := hV.len
  exact ⟨_, _, rfl⟩

theorem Cells.cellAt {w : World} {b o n cap : Nat} {cs : List Value} (h : Cells w (.slice (some ⟨b, o, none⟩) n cap) cs) {j : Nat} {u : Value} (hu : cs[j]? = some u) : w.cell? ⟨b, o + j, none⟩ = some u := by
  obtain ⟨b', o', e, hc⟩ := h.at hu
  simp only [Option.some.injEq, Addr.mk.injEq, and_true] at e
  obtain ⟨rfl, rfl⟩ := e
  exact hc
theorem BRows.rowAt {w : World} {b o n cap : Nat} {ls : List (List UInt8)} (h : BRows w (.slice (some ⟨b, o, none⟩) n cap) ls) {i : Nat} {l : List UInt8} (hl : ls[i]? = some l) :
    ∃ ra rc, w.cell? ⟨b, o + i, none⟩ = some (.slice ra l.length rc) ∧ Bytes w (.slice ra l.length rc) l := by
  obtain ⟨b', o', ra, rc, e, h1, h2⟩ := h.at hl
  simp only [Option.some.injEq, Addr.mk.injEq, and_true] at e
  obtain ⟨rfl, rfl⟩ := e
  exact ⟨ra, rc, h1, h2⟩
/-- A row of bytes that is not empty. -/
theorem Bytes.open1 {w : World} {a : Option Addr} {n cap : Nat} {l : List UInt8} (h : Bytes w (.slice a n cap) l) (h0 : 0 < l.length) : ∃ b o, a = some ⟨b, o, none⟩ := by
  obtain ⟨b, o, e, -⟩ := h.at (bvs_get h0)
  exact ⟨b, o, e⟩
theorem Mat.Sh.get {a : Mat.M} {n m : Nat} (h : Mat.Sh a n m) {i : Nat} (hi : i < n) : a[i]? = some (a.getD i []) ∧ (a.getD i []).length = m := by
  have hi' : i < a.length := by rw [h.1]; exact hi
  exact ⟨by rw [List.getElem?_eq_getElem hi', Mat.getD_lt hi'], h.row hi⟩
theorem bytes_get {l : List UInt8} {j : Nat} (h : j < l.length) : (bvs l)[j]? = some (bv (l.getD j 0)) := by
  rw [bvs_get h, Mat.getD_lt h]
theorem mul_any (va vb : Value) (a b : Mat.M) (n k m : Nat) (h1 : 1 ≤ n ∧ n ≤ 255) (h2 : 1 ≤ k ∧ k ≤ 255) (h3 : 1 ≤ m ∧ m ≤ 255) (ha : Mat.Sh a n k) (hb : Mat.Sh b k m) (w : World) (hA : BRows w va a) (hB : BRows w vb b) :
    Calls Tryz.prog 148 #[va, vb] w fun e w' => ∃ g, e = .returned (.tuple #[.slice (some ⟨g, 0, none⟩) n n, .bool true]) ∧ MR w' w.heap.size g (Mat.mmul a b m) ∧ Ext w w' := by
  obtain ⟨aa, ac, rfl⟩ := hA.form
  obtain ⟨ba, bc, rfl⟩ := hB.form
  obtain ⟨b0, b1⟩ := h1
  obtain ⟨b2, b3⟩ := h2
  obtain ⟨b4, b5⟩ := h3
  obtain ⟨ab, ao, qa, qc, rfl, c1, -⟩ := hA.at (List.getElem?_eq_getElem (show 0 < a.length by have := ha.1; omega))
  obtain ⟨bb, bo, qb, qd, rfl, d1, -⟩ := hB.at (List.getElem?_eq_getElem (show 0 < b.length by have := hb.1; omega))
  rw [Nat.add_zero, ha.2 _ (List.getElem_mem _)] at c1
  rw [Nat.add_zero, hb.2 _ (List.getElem_mem _)] at d1
  have HSA := Lib.hid ha
  have HSB := Lib.hid hb
  rw [ha.1] at hA
  rw [hb.1] at hB
  rw [ha.1, hb.1]
  have HA := Lib.hid hA
  have HB := Lib.hid hB
  have C1 := Lib.hid c1
  have D1 := Lib.hid d1
  clear hA hB c1 d1 ha hb
  go_enter Tryz.func148, Tryz.ntmps148
  go_wp2_with fail
  refine (good_yes _ a n k b0 b1 b2 b3 HSA.out _ HA.out).mono ?_; rintro e w1 ⟨rfl, x1⟩
  have X1 := Lib.hid x1
  clear x1
  go_wp2_with fail
  refine (good_yes _ b k m b2 b3 b4 b5 HSB.out _ (HB.out.ext X1.out)).mono ?_; rintro e w2 ⟨rfl, x2⟩
  have c1 := Ext.cell (Ext.trans X1.out x2) C1.out
  have d1 := Ext.cell (Ext.trans X1.out x2) D1.out
  have X2 := Lib.hid (Ext.trans X1.out x2)
  clear x2
  have hkk : ((k : Int) != (k : Int)) = false := by simp
  go_wp2_with fail
  refine (new_any _).mono ?_; rintro e w3 ⟨t, ht, rfl, hT, x3⟩
  have d1 := Ext.cell (Ext.trans X2.out x3) D1.out
  have X3 := Lib.hid (Ext.trans X2.out x3)
  clear x3 ht c1
  go_wp2_with fail
  refine (blank_any n m (by omega) (by omega) _).mono ?_; rintro e w4 ⟨g, vs, rfl, hO, x4⟩
  have HT := Lib.hid hT
  have X4 := Lib.hid x4
  have HO := Lib.hid hO.mr
  clear hT x4 hO hkk d1
  go_wp2_with fail
  go_loopw [39] (fun v39 wr => ∃ (i : Nat) (ls : List (List UInt8)), i ≤ n ∧ v39 = .int .i64 (i : Nat) ∧ ls.length = n ∧ Hid (MR wr w3.heap.size g ls) ∧ Hid (∀ j, j < n → ls[j]? = some (if j < i then Mat.rowk (a.getD j []) b m k else List.replicate m 0)) ∧ Below w3.heap.size w3 wr) (fun v39 _ => (n - intOf v39).toNat)
  case atStart => exact ⟨0, _, by omega, rfl, by simp, HO, Lib.hid fun j h => by rw [List.getElem?_replicate, if_pos h, if_neg (by omega)], X4.out⟩
  case round =>
    obtain ⟨i, ls, hi, rfl, hll, hR, hJ, hBr⟩ := hrel
    by_cases hlt : i < n
    · have hil : i < ls.length := by omega
      have HL0 := Lib.hid (show ls[i]? = some (List.replicate m 0) by rw [hJ.out i hlt, if_neg (by omega)])
      obtain ⟨g1, g2⟩ := HSA.out.get hlt
      obtain ⟨ra, rc, c0, hb⟩ := HA.out.rowAt g1
      rw [g2] at c0 hb
      have c1 := Ext.cell (Ext.trans X3.out hBr) c0
      obtain ⟨rb, ro, rfl⟩ := hb.open1 (by omega)
      have HRB := Lib.hid hb
      have G2 := Lib.hid g2
      have hlt' : (i : Int) < (n : Int) := by omega
      generalize hrow : a.getD i [] = row at HRB G2
      have HROW := Lib.hid hrow
      clear g1 g2 hb hrow c0
      go_wp2_with fail
      clear c1
      go_loopw [46] (fun v46 wr2 => ∃ j : Nat, j ≤ k ∧ v46 = .int .i64 (j : Nat) ∧ Hid (MR wr2 w3.heap.size g (ls.set i (Mat.rowk row b m j))) ∧ Below w3.heap.size w3 wr2) (fun v46 _ => (k - intOf v46).toNat)
      case atStart => exact ⟨0, by omega, rfl, Lib.hid (by have e : ls.set i (List.replicate m 0) = ls := by { have := Mat.set_self ls i; rw [List.getD_eq_getElem?_getD, HL0.out] at this; exact this }; show MR _ _ _ (ls.set i (List.replicate m 0)); rw [e]; exact hR.out), hBr⟩
      case round =>
        obtain ⟨j, hj, rfl, hR2, hBr2⟩ := hrel
        rename World => wr2
        by_cases hlt2 : j < k
        · have hlt2' : (j : Int) < (k : Int) := by omega
          have hE2 := Ext.trans X3.out hBr2
          have c1 := ((HRB.out.ext hE2).cellAt (bytes_get (show j < row.length by rw [G2.out]; exact hlt2)))
          obtain ⟨g3, g4⟩ := HSB.out.get hlt2
          obtain ⟨ba, bcc, d1, hbr⟩ := (HB.out.ext hE2).rowAt g3
          rw [g4] at d1 hbr
          obtain ⟨oa, oc, o1, hor⟩ := hR2.out.at (i := i) (l := Mat.rowk row b m j) (by rw [List.getElem?_set, if_pos rfl, if_pos hil])
          rw [Mat.rowk_len] at o1 hor
          have HBR := Lib.hid hbr
          have HOR := Lib.hid hor
          have HT2 := Lib.hid (HT.out.ext hBr2)
          have G4 := Lib.hid g4
          have HE2 := Lib.hid hE2
          have mc : ∀ w', Ext wr2 w' → Calls Tryz.prog 169 #[.pointer (some ⟨t, 0, none⟩), .slice oa m oc, .slice ba m bcc, .int .u8 (row.getD j 0).toNat] w' fun e w5 =>
              ∃ ua uc, e = .returned (.slice ua m uc) ∧ w5.cell? ⟨g, i, none⟩ = some (.slice oa m oc) ∧ w5.frozen? ⟨g, i, none⟩ = false ∧ Hid (MR (w5.setCell ⟨g, i, none⟩ (.slice ua m uc)) w3.heap.size g (ls.set i (Mat.rowk row b m (j + 1))) ∧ Below w3.heap.size w3 (w5.setCell ⟨g, i, none⟩ (.slice ua m uc))) := by
            intro w' e
            refine (muladd_any t (Mat.rowk row b m j) (b.getD j []) (row.getD j 0) _ _ _ (HT2.out.ext e) (by rw [Mat.rowk_len]; omega) (by rw [G4.out]; omega) (HOR.out.ext e) (HBR.out.ext e)).mono ?_
            rintro e' w5 ⟨u, rfl, hU, hx5⟩
            have hx6 := Ext.trans e hx5
            have hul : (mad (Mat.rowk row b m j) (b.getD j []) (row.getD j 0)).length = m := by rw [mad_length, Mat.rowk_len]
            obtain ⟨ua, uc, rfl⟩ := Bytes.slice hU.cells
            have hst := (hR2.out.ext hx6).set hU.cells i
            rw [List.set_set, hul] at hst
            rw [hul]
            exact ⟨ua, uc, rfl, Ext.cell hx6 o1, (hR2.out.ext hx6).unfrozen i, Lib.hid ⟨hst, Below.set (Ext.trans hBr2 hx6) hR2.out.base i _⟩⟩
          clear hbr hor hE2 g3 g4
          go_wp2_with fail
          go_region_with (go_at_call 169; refine (mc _ (Ext.of_drawn _ 1)).mono ?_; rintro e w5 ⟨ua, uc, rfl, o2, u2, hst⟩)
          all_goals
            clear o1 c1 d1 mc o2 u2
            go_wp2_with fail
            exact ⟨⟨j + 1, by omega, by go_num, Lib.hid hst.out.1, hst.out.2⟩, by simp [intOf]; omega⟩
        · obtain rfl : j = k := by omega
          clear hlt2
          go_wp2_with fail
          refine ⟨⟨i + 1, _, by omega, by go_num, by simpa using hll, hR2, Lib.hid fun q hq => ?_, hBr2⟩, by simp [intOf]; omega⟩
          rw [List.getElem?_set]
          by_cases e : i = q
          · rw [if_pos e, if_pos hil, if_pos (by omega), ← HROW.out, e]
          · rw [if_neg e, hJ.out q hq]
            by_cases e2 : q < i
            · rw [if_pos e2, if_pos (by omega)]
            · rw [if_neg e2, if_neg (by omega)]
    · obtain rfl : i = n := by omega
      have hle : ls = Mat.mmul a b m := by
        apply List.ext_getElem?
        intro j
        unfold Mat.mmul
        rw [List.getElem?_map, HSB.out.1]
        by_cases hj : j < i
        · rw [hJ.out j hj, if_pos hj, (HSA.out.get hj).1]; rfl
        · rw [List.getElem?_eq_none (by omega), List.getElem?_eq_none (by rw [HSA.out.1]; omega)]; rfl
      have hR2 := hR.out.mono X3.out.size
      rw [hle] at hR2
      have hR3 := Lib.hid hR2
      have HF := Lib.hid (Ext.trans X3.out hBr)
      clear hR2 hle hJ hR hlt
      go_wp2_with fail
      go_ret2
      exact ⟨_, rfl, hR3.out, HF.out⟩

theorem mul_no (va vb : Value) (a b : Mat.M) (h : ¬ (Mat.Good a ∧ Mat.Good b ∧ (a.getD 0 []).length = b.length)) (w : World) (hA : BRows w va a) (hB : BRows w vb b) :
    Calls Tryz.prog 148 #[va, vb] w fun e w' => e = .returned (.tuple #[.slice none 0 0, .bool false]) ∧ Ext w w' := by
  obtain ⟨aa, ac, rfl⟩ := hA.form
  obtain ⟨ba, bc, rfl⟩ := hB.form
  have HA := Lib.hid hA
  have HB := Lib.hid hB
  have HN := Lib.hid h
  clear hA hB h
  by_cases g1 : Mat.Good a
  · by_cases g2 : Mat.Good b
    · obtain ⟨a1, a2, a3, a4, a5⟩ := g1.sides
      obtain ⟨b1, b2, b3, b4, b5⟩ := g2.sides
      have hne : (a.getD 0 []).length ≠ b.length := fun e => HN.out ⟨g1, g2, e⟩
      have hkk : (((a.getD 0 []).length : Int) != (b.length : Int)) = true := (bne_len _ _).trans (decide_eq_true hne)
      have h0 : 0 < a.length := by omega
      obtain ⟨ab, ao, qa, qc, rfl, c1, -⟩ := HA.out.at (List.getElem?_eq_getElem h0)
      rw [Nat.add_zero, ← Mat.getD_lt h0 []] at c1
      obtain ⟨q, hq⟩ : ∃ q, (a.getD 0 []).length = q := ⟨_, rfl⟩
      rw [hq] at c1 hkk a3 a4
      have C1 := Lib.hid c1
      clear hq hne
      have G1 := Lib.hid g1
      have G2 := Lib.hid g2
      clear c1 g1 g2 a5 b5
      go_enter Tryz.func148, Tryz.ntmps148
      go_wp2_with fail
      refine (good_any _ a true ⟨fun _ => G1.out, fun _ => rfl⟩ _ HA.out).mono ?_; rintro e w1 ⟨rfl, x1⟩
      have X1 := Lib.hid x1
      clear x1
      go_wp2_with fail
      refine (good_any _ b true ⟨fun _ => G2.out, fun _ => rfl⟩ _ (HB.out.ext X1.out)).mono ?_; rintro e w2 ⟨rfl, x2⟩
      have c1 := Ext.cell (Ext.trans X1.out x2) C1.out
      have X2 := Lib.hid (Ext.trans X1.out x2)
      clear x2
      go_wp2_with fail
      go_ret2
      exact ⟨rfl, X2.out⟩
    · have G1 := Lib.hid g1
      have G2 := Lib.hid g2
      clear g1 g2
      go_enter Tryz.func148, Tryz.ntmps148
      go_wp2_with fail
      refine (good_any _ a true ⟨fun _ => G1.out, fun _ => rfl⟩ _ HA.out).mono ?_; rintro e w1 ⟨rfl, x1⟩
      have X1 := Lib.hid x1
      clear x1
      go_wp2_with fail
      refine (good_no _ b G2.out _ (HB.out.ext X1.out)).mono ?_; rintro e w2 ⟨rfl, x2⟩
      have X2 := Lib.hid (Ext.trans X1.out x2)
      clear x2
      go_wp2_with fail
      go_ret2
      exact ⟨rfl, X2.out⟩
  · have G1 := Lib.hid g1
    clear g1
    go_enter Tryz.func148, Tryz.ntmps148
    go_wp2_with fail
    refine (good_no _ a G1.out _ HA.out).mono ?_; rintro e w1 ⟨rfl, x1⟩
    have X1 := Lib.hid x1
    clear x1
    go_wp2_with fail
    go_ret2
    exact ⟨rfl, X1.out⟩
end Go.Proofs.YthkbbcdnmdjhdaaGreat
