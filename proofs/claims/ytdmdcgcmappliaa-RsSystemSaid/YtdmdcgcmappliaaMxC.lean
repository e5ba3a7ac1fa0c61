/-
  matrix: Unit, clone, pivot.
-/
import Derived.Test.YtdmdcgcmappliaaMxB
namespace Go.Proofs.Ytdmdcgcmappliaa
open Go.RowKit
set_option maxRecDepth 100000
set_option maxHeartbeats 4000000
attribute [local go_sem] min_int2 max_int2

/-- A row of the call's own that is not empty: its block. -/
theorem ORows.rowAt {w : World} {B g k : Nat} {vs : List Value} {ls : List (List UInt8)} (h : ORows w B g k vs ls) {i : Nat} {l : List UInt8} (hl : ls[i]? = some l) (h0 : 0 < l.length) :
    ∃ b cap, vs[i]? = some (.slice (some ⟨b, 0, none⟩) l.length cap) ∧ B ≤ b ∧ w.cell? ⟨g, i, none⟩ = some (.slice (some ⟨b, 0, none⟩) l.length cap) ∧ (∀ j x, l[j]? = some x → w.cell? ⟨b, j, none⟩ = some (bv x)) ∧ (∀ j, w.frozen? ⟨b, j, none⟩ = false) := by
  have hi : i < vs.length := by have q1 := (List.getElem?_eq_some_iff.1 hl).1; have q2 := h.vlen; have q3 := h.llen; omega
  obtain ⟨o1, o2⟩ := h.own i vs[i] l (List.getElem?_eq_getElem hi) hl
  rcases o1.forms with ⟨_, e⟩ | ⟨b, cap, cur, e, h2, hr, hc, hs, ht, h5⟩
  · have := congrArg List.length e
    rw [bvs_len, List.length_nil] at this
    omega
  · rw [bvs_len] at e
    have hv : vs[i]? = some (.slice (some ⟨b, 0, none⟩) l.length cap) := by rw [List.getElem?_eq_getElem hi, e]
    refine ⟨b, cap, hv, h2, h.row.cell (by simpa using hv), fun j x hx => ?_, fun j => hr.unfrozen j⟩
    have hb := o1.cells
    rw [e] at hb
    obtain ⟨b', o', e1, e2⟩ := hb.at (j := j) (u := bv x) (by simp [hx])
    simp only [Option.some.injEq, Addr.mk.injEq, and_true] at e1
    obtain ⟨rfl, rfl⟩ := e1
    rw [Nat.zero_add] at e2
    exact e2

theorem unit_any (n : Nat) (h1 : 1 ≤ n) (h2 : n ≤ 255) (w : World) :
    Calls Try.prog 26 #[.int .i64 n] w fun e w' => ∃ g vs, e = .returned (.slice (some ⟨g, 0, none⟩) n n) ∧ ORows w' w.heap.size g n vs (Mat.unit n) ∧ Ext w w' := by
  go_enter Try.func26, Try.ntmps26
  go_wp2_with fail
  refine (side_yes n (by omega) _).mono ?_; rintro e w' ⟨rfl, rfl⟩
  go_wp2_with fail
  refine (blank_any n n (by omega) (by omega) _).mono ?_; rintro e w1 ⟨g, vs, rfl, hO, hx1⟩
  have hO1 := Lib.hid hO
  have hg := hO.base
  clear hO
  go_wp2_with fail
  go_loopw [13] (fun v8 wr => ∃ (i : Nat) (ls : List (List UInt8)), i ≤ n ∧ v8 = .int .i64 (i : Nat) ∧ Hid (ORows wr w.heap.size g n vs ls) ∧ Hid (∀ j, j < n → ls[j]? = some (if j < i then (List.replicate n 0).set j 1 else List.replicate n 0)) ∧ Below w.heap.size w wr) (fun v8 _ => (n - intOf v8).toNat)
  case atStart => exact ⟨0, _, by omega, rfl, hO1, Lib.hid fun j h => by rw [List.getElem?_replicate, if_pos h, if_neg (by omega)], hx1⟩
  case round =>
    obtain ⟨i, ls, hi, rfl, hR, hJ, hBr⟩ := hrel
    by_cases hlt : i < n
    · have hl0 : ls[i]? = some (List.replicate n 0) := by rw [hJ.out i hlt, if_neg (by omega)]
      obtain ⟨b, cap, hv, hb, c1, c2, u2⟩ := hR.out.rowAt hl0 (by simp; omega)
      rw [List.length_replicate] at hv c1
      have c3 := c2 i 0 (by rw [List.getElem?_replicate, if_pos hlt])
      have u3 := u2 i
      have hlt' : (i : Int) < (n : Int) := by omega
      have hst := Lib.hid (hR.out.poke hv hl0 i 1)
      have hBw := Below.set hBr hb i (bv 1)
      clear c2 u2 hv hl0
      have hil : i < ls.length := by have := hR.out.llen; omega
      go_wp2_with fail
      refine ⟨⟨i + 1, _, by omega, by go_num, hst, Lib.hid fun j hj => ?_, hBw⟩, by simp [intOf]; omega⟩
      rw [List.getElem?_set]
      by_cases e : i = j
      · rw [if_pos e, if_pos hil, if_pos (by omega), e]
      · rw [if_neg e, hJ.out j hj]
        by_cases e2 : j < i
        · rw [if_pos e2, if_pos (by omega)]
        · rw [if_neg e2, if_neg (by omega)]
    · obtain rfl : i = n := by omega
      have hle : ls = Mat.unit i := by
        have hll := hR.out.llen
        apply List.ext_getElem?
        intro j
        unfold Mat.unit
        by_cases hj : j < i
        · rw [hJ.out j hj, if_pos hj]; simp [hj]
        · rw [List.getElem?_eq_none (by omega), List.getElem?_eq_none (by simp; omega)]
      have hR2 := hR.out
      rw [hle] at hR2
      have hR3 := Lib.hid hR2
      clear hR2 hle hJ hR hlt
      go_wp2_with fail
      go_ret
      exact ⟨_, _, rfl, hR3.out, hBr⟩

theorem clone_any (v : Value) (ls : List (List UInt8)) (hl : ls.length ≤ 70000) (hr : ∀ r ∈ ls, r.length ≤ 140737488351232) (w : World) (hV : BRows w v ls) :
    Calls Try.prog 46 #[v] w fun e w' => ∃ g, e = .returned (.slice (some ⟨g, 0, none⟩) ls.length ls.length) ∧ MR w' w.heap.size g ls ∧ Ext w w' := by
  obtain ⟨a, n, cap, rfl⟩ : ∃ a n cap, v = .slice a n cap := by obtain ⟨vs, ⟨a, cap, e, _⟩, _⟩ := hV; exact ⟨_, _, _, e⟩
  obtain rfl := hV.len
  have HV := Lib.hid hV
  have HE := Lib.hid hr
  clear hV hr
  have hm1 := make_mat ls.length hl
  go_enter Try.func46, Try.ntmps46
  go_wp2_with fail
  have hO := Lib.hid (MR.start w w.heap.size ls.length (Nat.le_refl _))
  have hB := (Ext.refl w).alloc (Nat.le_refl _) (.cells (Array.replicate ls.length (.slice none 0 0)) 34)
  generalize hw1 : w.alloc (.cells (Array.replicate ls.length (.slice none 0 0)) 34) = w1 at hO hB ⊢
  clear hw1 hm1
  go_loopw [11] (fun v11 wr => ∃ (i : Nat) (ks : List (List UInt8)), i ≤ ls.length ∧ v11 = .int .i64 (i : Nat) ∧ ks.length = ls.length ∧ Hid (MR wr w.heap.size w.heap.size ks) ∧ Hid (∀ j, j < i → ks[j]? = ls[j]?) ∧ Below w.heap.size w wr) (fun v11 _ => (ls.length - intOf v11).toNat)
  case atStart => exact ⟨0, _, by omega, rfl, by simp, hO, Lib.hid fun j h => by omega, hB⟩
  case round =>
    obtain ⟨i, ks, hi, rfl, hk, hR, hJ, hBr⟩ := hrel
    by_cases hlt : i < ls.length
    · obtain ⟨rb, ro, ra, rc, rfl, c1, hb⟩ := (HV.out.ext hBr).at (List.getElem?_eq_getElem hlt)
      have hrl := HE.out ls[i] (List.getElem_mem hlt)
      have HB := Lib.hid hb
      clear hb
      have hik : i < ks.length := by omega
      go_wp2_with fail
      refine (bclone_any _ ls[i] hrl _ HB.out).mono ?_; rintro e w2 ⟨u, rfl, hU, hx2⟩
      obtain ⟨ua, uc, rfl⟩ := hU.slice
      have hR2 := Lib.hid (hR.out.ext hx2)
      obtain ⟨qa, qc, c2, _⟩ := hR2.out.at (List.getElem?_eq_getElem hik)
      have u2 := hR2.out.unfrozen i
      have hst := Lib.hid (hR2.out.set hU i)
      have hBw := Below.set (Ext.trans hBr hx2) (Nat.le_refl w.heap.size) i (.slice ua ls[i].length uc)
      clear c1
      go_wp2_with fail
      refine ⟨⟨i + 1, _, by omega, by go_num, by simp [hk], hst, Lib.hid fun j hj => ?_, hBw⟩, by simp [intOf]; omega⟩
      rw [List.getElem?_set]
      by_cases e : i = j
      · rw [if_pos e, if_pos hik, ← e, List.getElem?_eq_getElem hlt]
      · rw [if_neg e, hJ.out j (by omega)]
    · obtain rfl : i = ls.length := by omega
      have hle : ks = ls := by
        apply List.ext_getElem?
        intro j
        by_cases hj : j < ls.length
        · exact hJ.out j hj
        · rw [List.getElem?_eq_none (by omega), List.getElem?_eq_none (by omega)]
      subst hle
      clear hJ hlt
      go_wp2_with fail
      go_ret
      exact ⟨_, rfl, hR.out, hBr⟩
end Go.Proofs.Ytdmdcgcmappliaa
