/-
  matrix.Vandermonde.
-/
import Derived.Test.YtdmdcgcmappliaaMxC
import Derived.Test.YtdmdcgcmappliaaMatMore
namespace Go.Proofs.Ytdmdcgcmappliaa
open Go.RowKit Gf
set_option maxRecDepth 100000
set_option maxHeartbeats 4000000
attribute [local go_sem] min_int2 max_int2

/-- A row of powers, the first j of them. -/
def vrow (r c j : Nat) : List UInt8 := (List.range c).map fun k => if k < j then Mat.pw (UInt8.ofNat r) k else 0
theorem vrow_len (r c j : Nat) : (vrow r c j).length = c := by simp [vrow]
theorem vrow_zero (r c : Nat) : vrow r c 0 = List.replicate c 0 := by
  unfold vrow
  simp [List.map_const']
theorem vrow_full (r c : Nat) : vrow r c c = (List.range c).map fun k => Mat.pw (UInt8.ofNat r) k :=
  List.map_congr_left fun k hk => by rw [if_pos (List.mem_range.1 hk)]
theorem vrow_get (r c j : Nat) (h : j < c) : (vrow r c j)[j]? = some 0 := by simp [vrow, h]
theorem vrow_succ (r c j : Nat) (h : j < c) : (vrow r c j).set j (Mat.pw (UInt8.ofNat r) j) = vrow r c (j + 1) := by
  unfold vrow
  apply List.ext_getElem?
  intro k
  rw [List.getElem?_set]
  by_cases e : j = k
  · subst e; simp [h]
  · rw [if_neg e]
    simp only [List.getElem?_map]
    by_cases hk : k < c
    · simp [hk]
      by_cases e2 : k < j
      · rw [if_pos e2, if_pos (by omega)]
      · rw [if_neg e2, if_neg (by omega)]
    · simp [hk]

theorem ORows.mono {w : World} {B B' g k : Nat} {vs : List Value} {ls : List (List UInt8)} (h : ORows w B g k vs ls) (hB : B' ≤ B) : ORows w B' g k vs ls :=
  ⟨h.vlen, h.llen, Nat.le_trans hB h.base, h.row, fun i v l hv hl => ⟨(h.own i v l hv hl).1.mono hB, (h.own i v l hv hl).2⟩, h.apart⟩
theorem vand_any (n c : Nat) (h1 : 1 ≤ n) (h2 : n ≤ 255) (h3 : 1 ≤ c) (h4 : c ≤ 255) (w : World) :
    Calls Try.prog 23 #[.int .i64 n, .int .i64 c] w fun e w' => ∃ g vs, e = .returned (.slice (some ⟨g, 0, none⟩) n n) ∧ ORows w' w.heap.size g n vs (Mat.vand n c) ∧ Ext w w' := by
  go_enter Try.func23, Try.ntmps23
  go_wp2_with fail
  refine (side_yes n (by omega) _).mono ?_; rintro e w' ⟨rfl, rfl⟩
  go_wp2_with fail
  refine (side_yes c (by omega) _).mono ?_; rintro e w' ⟨rfl, rfl⟩
  go_wp2_with fail
  refine (new_any _).mono ?_; rintro e w1 ⟨t, ht, rfl, hT, hx1⟩
  go_wp2_with fail
  refine (blank_any n c (by omega) (by omega) _).mono ?_; rintro e w2 ⟨g, vs, rfl, hO, hx2⟩
  have HT := Lib.hid hT
  have hO1 := Lib.hid hO
  have X1 := Lib.hid hx1
  clear hO hT hx1 ht
  go_wp2_with fail
  go_loopw [22] (fun v8 wr => ∃ (i : Nat) (ls : List (List UInt8)), i ≤ n ∧ v8 = .int .i64 (i : Nat) ∧ Hid (ORows wr w1.heap.size g n vs ls) ∧ Hid (∀ j, j < n → ls[j]? = some (if j < i then vrow j c c else List.replicate c 0)) ∧ Below w1.heap.size w1 wr) (fun v8 _ => (n - intOf v8).toNat)
  case atStart => exact ⟨0, _, by omega, rfl, hO1, Lib.hid fun j h => by rw [List.getElem?_replicate, if_pos h, if_neg (by omega)], hx2⟩
  case round =>
    obtain ⟨i, ls, hi, rfl, hR, hJ, hBr⟩ := hrel
    by_cases hlt : i < n
    · have hl0 : ls[i]? = some (List.replicate c 0) := by rw [hJ.out i hlt, if_neg (by omega)]
      have hlt' : (i : Int) < (n : Int) := by omega
      have hil : i < ls.length := by have := hR.out.llen; omega
      have HL0 := Lib.hid hl0
      clear hl0
      go_wp2_with fail
      go_loopw [26] (fun v26 wr2 => ∃ j : Nat, j ≤ c ∧ v26 = .int .i64 (j : Nat) ∧ Hid (ORows wr2 w1.heap.size g n vs (ls.set i (vrow i c j))) ∧ Below w1.heap.size w1 wr2) (fun v26 _ => (c - intOf v26).toNat)
      case atStart => exact ⟨0, by omega, rfl, Lib.hid (by rw [vrow_zero]; have e : ls.set i (List.replicate c 0) = ls := by { have := Mat.set_self ls i; rw [List.getD_eq_getElem?_getD, HL0.out] at this; exact this }; rw [e]; exact hR.out), hBr⟩
      case round =>
        obtain ⟨j, hj, rfl, hR2, hBr2⟩ := hrel
        rename World => wr2
        by_cases hlt2 : j < c
        · obtain ⟨b, cap, hv, hb, c1, c2, u2⟩ := hR2.out.rowAt (i := i) (l := vrow i c j) (by rw [List.getElem?_set, if_pos rfl, if_pos hil]) (by rw [vrow_len]; omega)
          have hst := (hR2.out.drewN 1).poke hv (by rw [List.getElem?_set, if_pos rfl, if_pos hil]) j (Mat.pw (UInt8.ofNat i) j)
          rw [vrow_succ i c j hlt2, List.set_set] at hst
          rw [vrow_len] at hv c1
          have c3 := c2 j 0 (vrow_get i c j hlt2)
          have u3 := u2 j
          have hlt2' : (j : Int) < (c : Int) := by omega
          have HST := Lib.hid hst
          have hbb := Lib.hid <| Below.set (Ext.trans hBr2 (Ext.of_drawn wr2 1)) hb j (bv (Mat.pw (UInt8.ofNat i) j))
          have hpw := Mat.pw_gpow (UInt8.ofNat i) j (by omega)
          have hui : (UInt8.ofNat i).toNat = i := by rw [UInt8.toNat_ofNat']; exact Nat.mod_eq_of_lt (by omega)
          rw [hui] at hpw
          have pow : ∀ w', Ext wr2 w' → Calls Try.prog 53 #[.pointer (some ⟨t, 0, none⟩), .int .u8 i, .int .i64 j] w' fun e w'' => e = .returned (bv (Mat.pw (UInt8.ofNat i) j)) ∧ w' = w'' := by
            intro w' e
            have := tpow_any t i (by omega) j _ (HT.out.ext (Ext.trans hBr2 e))
            rw [hpw] at this
            exact this
          have hwp : IntKind.u8.wrap (i : Int) = (i : Int) := by rw [IntKind.wrap_u8]; omega
          clear c2 u2 hv hst hR2 hpw hui
          go_wp2_with fail
          go_region_with (go_at_call 53; refine (pow _ (Ext.of_drawn _ 1)).mono ?_; rintro e w' ⟨rfl, rfl⟩)
          all_goals
            clear c1 c3 u3 pow hwp
            go_wp2_with fail
            exact ⟨⟨j + 1, by omega, by go_num, HST, hbb.out⟩, by simp [intOf]; omega⟩
        · obtain rfl : j = c := by omega
          clear hlt2
          go_wp2_with fail
          refine ⟨⟨i + 1, _, by omega, by go_num, hR2, Lib.hid fun k hk => ?_, hBr2⟩, by simp [intOf]; omega⟩
          rw [List.getElem?_set]
          by_cases e : i = k
          · rw [if_pos e, if_pos hil, if_pos (by omega), e]
          · rw [if_neg e, hJ.out k hk]
            by_cases e2 : k < i
            · rw [if_pos e2, if_pos (by omega)]
            · rw [if_neg e2, if_neg (by omega)]
    · obtain rfl : i = n := by omega
      have hle : ls = Mat.vand i c := by
        have hll := hR.out.llen
        apply List.ext_getElem?
        intro j
        unfold Mat.vand
        by_cases hj : j < i
        · rw [hJ.out j hj, if_pos hj, vrow_full]; simp [hj]
        · rw [List.getElem?_eq_none (by omega), List.getElem?_eq_none (by simp; omega)]
      have hR2 := hR.out.mono X1.out.size
      rw [hle] at hR2
      have hR3 := Lib.hid hR2
      have HF := Lib.hid (Ext.trans X1.out hBr)
      clear hR2 hle hJ hR hlt
      go_wp2_with fail
      go_ret
      exact ⟨_, _, rfl, hR3.out, HF.out⟩
end Go.Proofs.Ytdmdcgcmappliaa
