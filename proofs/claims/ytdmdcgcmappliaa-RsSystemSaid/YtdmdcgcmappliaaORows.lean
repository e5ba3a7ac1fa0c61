/-
  Rows of bytes of the call's own, one block each, their slices in a block: what appending and writing keep. No statement about the program.
-/
import Derived.Test.YtdmdcgcmappliaaBRows
import Derived.Test.YtdmdcgcmappliaaIn
import Derived.Deep.RegionLaw
namespace Go.Proofs.Ytdmdcgcmappliaa
open Go.RowKit
set_option maxRecDepth 100000
set_option maxHeartbeats 1000000

theorem info_u8' : (Try.prog.info? 5).map (fun i => (i.zero, i.size, i.bytes)) = some (some (.int .u8 0), 1, 1) := by kernel_rfl
theorem info_bytes : (Try.prog.info? 34).map (fun i => (i.zero, i.size, i.bytes)) = some (some (.slice none 0 0), 1, 24) := by kernel_rfl

/-- Block g is a row of k byte slices, each the call's own, no two in one block. -/
structure ORows (w : World) (B g k : Nat) (vs : List Value) (ls : List (List UInt8)) : Prop where
  vlen : vs.length = k
  llen : ls.length = k
  base : B ≤ g
  row : Row w g 34 vs.toArray
  own : ∀ (i : Nat) (v : Value) (l : List UInt8), vs[i]? = some v → ls[i]? = some l → Own w B 5 v (bvs l) ∧ v.ownBlock ≠ some g
  apart : ∀ (i j : Nat) (v v' : Value), i ≠ j → vs[i]? = some v → vs[j]? = some v' → v.ownBlock = none ∨ v.ownBlock ≠ v'.ownBlock
theorem ORows.start (w : World) (B k : Nat) (hB : B ≤ w.heap.size) : ORows (w.alloc (.cells (Array.replicate k (.slice none 0 0)) 34)) B w.heap.size k (List.replicate k (.slice none 0 0)) (List.replicate k []) := by
  refine ⟨by simp, by simp, hB, by rw [List.toArray_replicate]; exact Row.new _ _ _, fun i v l hv hl => ?_, fun i j v v' _ hv _ => ?_⟩
  · rw [List.getElem?_replicate] at hv hl
    split at hv
    · simp at hv hl
      obtain ⟨_, rfl⟩ := hl
      subst hv
      exact ⟨Own.nil _ _ _, by simp [Value.ownBlock]⟩
    · cases hv
  · rw [List.getElem?_replicate] at hv
    split at hv
    · simp at hv; subst hv; exact .inl rfl
    · cases hv
theorem ORows.drewN {w : World} {B g k : Nat} {vs : List Value} {ls : List (List UInt8)} (h : ORows w B g k vs ls) (n : Nat) : ORows (w.drewN n) B g k vs ls := ⟨h.vlen, h.llen, h.base, h.row, h.own, h.apart⟩
theorem ORows.drew {w : World} {B g k : Nat} {vs : List Value} {ls : List (List UInt8)} (h : ORows w B g k vs ls) : ORows w.drew B g k vs ls := ⟨h.vlen, h.llen, h.base, h.row, h.own, h.apart⟩
theorem Own.keep {w w' : World} {B : Nat} {e : TypeId} {v : Value} {cs : List Value} {r : Option Nat} (h : Own w B e v cs) (hg : w.grownBy w' r) (hne : v.ownBlock = none ∨ v.ownBlock ≠ r) : Own w' B e v cs := World.ownsRow.kept h hg hne
theorem Own.set_other {w : World} {B : Nat} {e : TypeId} {v : Value} {cs : List Value} (h : Own w B e v cs) {p : Addr} (hp : v.ownBlock ≠ some p.block) (u : Value) : Own (w.setCell p u) B e v cs := by
  rcases h.forms with ⟨rfl, rfl⟩ | ⟨g, cap, cur, rfl, h2, hr, hl, hs, ht, h5⟩
  · exact Own.nil _ _ _
  · exact Own.mk h2 (hr.set_ne (fun h => hp (by rw [h]; rfl)) u) hl hs ht h5
theorem ORows.step {w w' : World} {B g k : Nat} {vs : List Value} {ls : List (List UInt8)} (h : ORows w B g k vs ls) {i : Nat} {v v' : Value} {l x : List UInt8} (hv : vs[i]? = some v) (hl : ls[i]? = some l)
    (ha : AppOut w B 5 v (bvs (l ++ x)) v' w') : ORows (w'.setCell ⟨g, i, none⟩ v') B g k (vs.set i v') (ls.set i (l ++ x)) := by
  obtain ⟨o1, o2, o3⟩ := ha
  have hgs := h.row.lt
  obtain ⟨hown, hne⟩ := h.own i v l hv hl
  have hvb : ∀ b, v.ownBlock = some b → b < w.heap.size := fun b hb => (World.ownsRow.lt hown b hb).2
  have hblk : ∀ (j : Nat) (u : Value) (m : List UInt8), vs[j]? = some u → ls[j]? = some m → ∀ b, u.ownBlock = some b → b < w.heap.size := fun j u m hu hm b hb => (World.ownsRow.lt (h.own j u m hu hm).1 b hb).2
  have hv'g : v'.ownBlock ≠ some g := by
    rcases o3 with o3 | ⟨q, o3, hq⟩
    · rw [o3]; exact hne
    · rw [o3]; intro h; injection h with h; omega
  have hlen := h.vlen
  have hll := h.llen
  have hi : i < vs.length := (List.getElem?_eq_some_iff.1 hv).1
  refine ⟨by simpa using hlen, by simpa using hll, h.base, ?_, fun j u m hu hm => ?_, fun j j' u u' hjj hu hu' => ?_⟩
  · have r1 : Row w' g 34 vs.toArray := (o2.block g hgs (fun h => hne h.symm)).trans h.row
    have r2 := r1.set i v'
    have e : (vs.set i v').toArray = vs.toArray.setIfInBounds i v' := by simp
    rw [e]; exact r2
  · rw [List.getElem?_set] at hu hm
    by_cases hji : i = j
    · subst hji
      rw [if_pos rfl, if_pos hi] at hu
      rw [if_pos rfl, if_pos (by omega)] at hm
      simp at hu hm
      subst hu hm
      exact ⟨o1.set_other hv'g _, hv'g⟩
    · rw [if_neg hji] at hu hm
      obtain ⟨k1, k2⟩ := h.own j u m hu hm
      have hap := h.apart j i u v (fun h => hji h.symm) hu hv
      exact ⟨(k1.keep o2 hap).set_other k2 _, k2⟩
  · rw [List.getElem?_set] at hu hu'
    have old : ∀ (q : Nat) (y : Value), i ≠ q → vs[q]? = some y → y.ownBlock = none ∨ y.ownBlock ≠ v'.ownBlock := by
      intro q y hq hy
      have hm : ∃ m, ls[q]? = some m := ⟨ls[q]'(by have := (List.getElem?_eq_some_iff.1 hy).1; omega), List.getElem?_eq_getElem _⟩
      obtain ⟨m, hm⟩ := hm
      rcases o3 with o3 | ⟨c, o3, hc⟩
      · rw [o3]; exact h.apart q i y v (fun h => hq h.symm) hy hv
      · cases hb : y.ownBlock with
        | none => exact .inl rfl
        | some b => right; rw [o3]; intro he; injection he with he; have := hblk q y m hy hm b hb; omega
    by_cases c1 : i = j
    · subst c1
      rw [if_pos rfl, if_pos hi] at hu
      rw [if_neg hjj] at hu'
      simp at hu; subst hu
      rcases old j' u' hjj hu' with o | o
      · cases hb : v'.ownBlock with
        | none => exact .inl rfl
        | some b => right; rw [o]; simp
      · exact .inr fun h => o h.symm
    · rw [if_neg c1] at hu
      by_cases c2 : i = j'
      · subst c2
        rw [if_pos rfl, if_pos hi] at hu'
        simp at hu'; subst hu'
        exact old j u c1 hu
      · rw [if_neg c2] at hu'
        exact h.apart j j' u u' hjj hu hu'
theorem ORows.brows {w : World} {B g k : Nat} {vs : List Value} {ls : List (List UInt8)} (h : ORows w B g k vs ls) : BRows w (.slice (some ⟨g, 0, none⟩) k k) ls := by
  refine ⟨vs, ⟨some ⟨g, 0, none⟩, k, by rw [h.vlen], by rw [h.vlen]; exact Nat.le_refl _, (fun h => by cases h), fun j u hu => ⟨_, rfl, ?_⟩⟩, by rw [h.vlen, h.llen], fun i u l hu hl => (h.own i u l hu hl).1.cells⟩
  rw [Addr.add_lit, Nat.zero_add]
  exact h.row.cell (by simpa using hu)


/-- A cell of a row, written in place. -/
theorem ORows.poke {w : World} {B g k : Nat} {vs : List Value} {ls : List (List UInt8)} (h : ORows w B g k vs ls) {i b n cap : Nat} {l : List UInt8} (hv : vs[i]? = some (.slice (some ⟨b, 0, none⟩) n cap)) (hl : ls[i]? = some l) (j : Nat) (x : UInt8) :
    ORows (w.setCell ⟨b, j, none⟩ (bv x)) B g k vs (ls.set i (l.set j x)) := by
  obtain ⟨o1, o2⟩ := h.own i _ l hv hl
  have hne : b ≠ g := fun e => o2 (by rw [e]; rfl)
  have hlen := h.vlen
  have hll := h.llen
  have hi : i < ls.length := (List.getElem?_eq_some_iff.1 hl).1
  refine ⟨hlen, by rw [List.length_set]; exact hll, h.base, h.row.set_ne hne _, fun q u m hu hm => ?_, fun q q' u u' hq hu hu' => h.apart q q' u u' hq hu hu'⟩
  rw [List.getElem?_set] at hm
  by_cases e : i = q
  · subst e
    rw [if_pos rfl, if_pos hi] at hm
    simp only [Option.some.injEq] at hm
    rw [hv] at hu
    simp only [Option.some.injEq] at hu
    rw [← hu, ← hm]
    refine ⟨?_, o2⟩
    have := o1.set j (bv x)
    have e : (bvs l).set j (bv x) = bvs (l.set j x) := by simp [List.map_set]
    rw [e] at this
    exact this
  · rw [if_neg e] at hm
    obtain ⟨k1, k2⟩ := h.own q u m hu hm
    refine ⟨k1.set_other ?_ _, k2⟩
    rcases h.apart q i u _ (fun h => e h.symm) hu hv with a | a
    · rw [a]; exact fun h => by cases h
    · exact a
theorem make_cap {P : Program} (t e : TypeId) (z : Value) (bytes n c : Nat) (ht : P.underlying t = some (.slice e))
    (hi : (P.info? e).map (fun i => (i.zero, i.size, i.bytes)) = some (some z, 1, bytes)) (hz1 : z.cells = #[z]) (hnc : n ≤ c) (hb : bytes * c ≤ 281474976710656) (hn : c ≤ 9223372036854775807) (w : World) :
    (Instr.makeSlice t (.int .i64 (n : Int)) (.int .i64 (c : Int))).run P w = .ok (.slice (some ⟨w.heap.size, 0, none⟩) n c) (w.alloc (.cells (Array.replicate c z) e)) := by
  obtain ⟨i, hi, hz, hs, hby⟩ := info_parts hi
  have hb' : (i.bytes : Int) * (c : Int) ≤ 281474976710656 := by
    have h : ((i.bytes * c : Nat) : Int) ≤ 281474976710656 := by rw [hby]; omega
    rwa [Int.natCast_mul] at h
  rw [run_make (P := P) w t e i z ht hi hz .i64 .i64 n c (by omega) (by omega) hb' (by omega)]
  congr 4
  rw [hz1, hs, Nat.mul_one, Int.toNat_natCast]
  apply Array.ext
  · simp [madeCells]
  · intro k h1 h2
    simp [madeCells, Nat.mod_one]

/-- The i-th row, its value and its cell. -/
theorem BRows.at {w : World} {a : Option Addr} {n cap : Nat} {ls : List (List UInt8)} (h : BRows w (.slice a n cap) ls) {i : Nat} {l : List UInt8} (hl : ls[i]? = some l) :
    ∃ b o ra rc, a = some ⟨b, o, none⟩ ∧ w.cell? ⟨b, o + i, none⟩ = some (.slice ra l.length rc) ∧ Bytes w (.slice ra l.length rc) l := by
  obtain ⟨vs, h1, h2, h3⟩ := h
  have hi : i < vs.length := by have := (List.getElem?_eq_some_iff.1 hl).1; omega
  obtain ⟨b, o, e, hc⟩ := h1.at (List.getElem?_eq_getElem hi)
  have hb := h3 i vs[i] l (List.getElem?_eq_getElem hi) hl
  obtain ⟨ra, rc, e2, -, -, -⟩ := id hb
  rw [bvs_len] at e2
  rw [e2] at hc hb
  exact ⟨b, o, ra, rc, e, hc, hb⟩
theorem BRows.len {w : World} {a : Option Addr} {n cap : Nat} {ls : List (List UInt8)} (h : BRows w (.slice a n cap) ls) : n = ls.length := by
  obtain ⟨vs, ⟨a', cap', e, _⟩, h2, _⟩ := h
  simp only [Value.slice.injEq] at e
  omega
end Go.Proofs.Ytdmdcgcmappliaa
