/-
  rs: New, K, N, even, row.
-/
import Derived.Test.YtdmdcgcmappliaaMxJ
import Derived.Test.YtdmdcgcmappliaaMxN
namespace Go.Proofs.Ytdmdcgcmappliaa
open Go.RowKit Gf
set_option maxRecDepth 100000
set_option maxHeartbeats 4000000
attribute [local go_sem] min_int2 max_int2

/-- A code in memory: k, n, the matrix' list, the table. -/
def CodeAt (w : World) (cb k n : Nat) (X : Mat.M) : Prop :=
  ∃ xg t, Row w cb 89 #[.int .i64 k, .int .i64 n, .slice (some ⟨xg, 0, none⟩) n n, .pointer (some ⟨t, 0, none⟩)] ∧ BRows w (.slice (some ⟨xg, 0, none⟩) n n) X ∧ TableAt w t
theorem CodeAt.ext {w w' : World} {cb k n : Nat} {X : Mat.M} (h : CodeAt w cb k n X) (hx : Ext w w') : CodeAt w' cb k n X := by
  obtain ⟨xg, t, h1, h2, h3⟩ := h
  exact ⟨xg, t, h1.ext hx, h2.ext hx, h3.ext hx⟩
theorem CodeAt.cells {w : World} {cb k n : Nat} {X : Mat.M} (h : CodeAt w cb k n X) : ∃ xg t, w.cell? ⟨cb, 0, none⟩ = some (.int .i64 k) ∧ w.cell? ⟨cb, 1, none⟩ = some (.int .i64 n) ∧ w.cell? ⟨cb, 2, none⟩ = some (.slice (some ⟨xg, 0, none⟩) n n) ∧ w.cell? ⟨cb, 3, none⟩ = some (.pointer (some ⟨t, 0, none⟩)) ∧ BRows w (.slice (some ⟨xg, 0, none⟩) n n) X ∧ TableAt w t := by
  obtain ⟨xg, t, h1, h2, h3⟩ := h
  exact ⟨xg, t, h1.cell rfl, h1.cell rfl, h1.cell rfl, h1.cell rfl, h2, h3⟩

theorem rsnew_any (k m : Nat) (h1 : 1 ≤ k) (h2 : 1 ≤ m) (h3 : k + m ≤ 255) (w : World) :
    Calls Try.prog 33 #[.int .i64 k, .int .i64 m] w fun e w' => ∃ cb X, Mat.sys k m = some X ∧ e = .returned (.tuple #[.pointer (some ⟨cb, 0, none⟩), .int .i64 0]) ∧ CodeAt w' cb k (k + m) X ∧ Ext w w' := by
  obtain ⟨q, hq⟩ : ∃ q, k + m = q := ⟨_, rfl⟩
  have hk : (k : Int) + (m : Int) = (q : Int) := by omega
  rw [hq]
  have HQ := Lib.hid hq
  have hq2 : q ≤ 255 := by omega
  go_enter Try.func33, Try.ntmps33
  go_wp2_with fail
  refine (sys_any k m h1 h2 h3 _).mono ?_; rintro e w1 ⟨X, g, hX, rfl, hM, x1⟩
  rw [HQ.out]
  have XS := (Mat.sys_sh hX).1
  rw [HQ.out] at XS
  have HM := Lib.hid (hM.brows (n := q) XS.symm)
  have X1 := Lib.hid x1
  have HX := Lib.hid hX
  clear hX hM x1 XS hq h3
  go_wp2_with fail
  refine (new_any _).mono ?_; rintro e w3 ⟨t, ht, rfl, hT, x3⟩
  have x4 : Ext w3 (w3.alloc (.cells #[.int .i64 k, .int .i64 q, .slice (some ⟨g, 0, none⟩) q q, .pointer (some ⟨t, 0, none⟩)] 89)) := (Ext.refl w3).alloc (Nat.le_refl _) _
  have hC : CodeAt (w3.alloc (.cells #[.int .i64 k, .int .i64 q, .slice (some ⟨g, 0, none⟩) q q, .pointer (some ⟨t, 0, none⟩)] 89)) w3.heap.size k q X := ⟨g, t, Row.new w3 _ _, (HM.out.ext x3).ext x4, hT.ext x4⟩
  have HC := Lib.hid hC
  have X4 := Lib.hid (Ext.trans (Ext.trans X1.out x3) x4)
  clear hC x4 x3 hT ht
  go_wp2_with fail
  go_ret2
  exact ⟨_, X, HX.out, rfl, HC.out, X4.out⟩
theorem rsnew_no (k m : Int) (h : ¬ (1 ≤ k ∧ 1 ≤ m ∧ k + m ≤ 255)) (w : World) :
    Calls Try.prog 33 #[.int .i64 k, .int .i64 m] w fun e w' => e = .returned (.tuple #[.pointer none, .int .i64 1]) ∧ w = w' := by
  have H := Lib.hid h
  clear h
  go_enter Try.func33, Try.ntmps33
  go_wp2_with fail
  refine (sys_no k m H.out _).mono ?_; rintro e w1 ⟨rfl, rfl⟩
  go_wp2_with fail
  go_ret2
  exact ⟨rfl, rfl⟩
theorem rsK_any (cb k n : Nat) (X : Mat.M) (w : World) (h : CodeAt w cb k n X) :
    Calls Try.prog 58 #[.pointer (some ⟨cb, 0, none⟩)] w fun e w' => e = .returned (.int .i64 k) ∧ w = w' := by
  obtain ⟨xg, t, c0, -, -, -, -, -⟩ := h.cells
  clear h
  go_enter Try.func58, Try.ntmps58
  go_wp2_with fail
  go_ret
  exact ⟨rfl, rfl⟩
theorem rsN_any (cb k n : Nat) (X : Mat.M) (w : World) (h : CodeAt w cb k n X) :
    Calls Try.prog 36 #[.pointer (some ⟨cb, 0, none⟩)] w fun e w' => e = .returned (.int .i64 n) ∧ w = w' := by
  obtain ⟨xg, t, -, c1, -, -, -, -⟩ := h.cells
  clear h
  go_enter Try.func36, Try.ntmps36
  go_wp2_with fail
  go_ret
  exact ⟨rfl, rfl⟩
theorem even_any (v : Value) (ls : List (List UInt8)) (d : Bool) (hd : d = true ↔ ∀ r ∈ ls, r.length = (ls.getD 0 []).length) (hl : ls.length ≤ maxLen) (w : World) (hV : BRows w v ls) :
    Calls Try.prog 59 #[v] w fun e w' => e = .returned (.bool d) ∧ w = w' := by
  obtain ⟨a, cap, rfl⟩ := hV.form
  have HV := Lib.hid hV
  have HD := Lib.hid hd
  unfold maxLen at hl
  clear hV hd
  go_enter Try.func59, Try.ntmps59
  go_wp2_with fail
  go_loop [7] (fun v3 => ∃ i : Nat, i ≤ ls.length ∧ v3 = .int .i64 i ∧ Hid (∀ j r, j < i → ls[j]? = some r → r.length = (ls.getD 0 []).length)) (fun v3 => (ls.length - intOf v3).toNat)
  case atStart => exact ⟨0, by omega, rfl, Lib.hid fun j r h => by omega⟩
  case round =>
    obtain ⟨i, hi, rfl, hJ⟩ := hrel
    by_cases hlt : i < ls.length
    · have h0 : 0 < ls.length := by omega
      have hlt' : (i : Int) < (ls.length : Int) := by omega
      obtain ⟨rb, ro, ra, rc, rfl, c1, -⟩ := HV.out.at (List.getElem?_eq_getElem hlt)
      obtain ⟨qa, qc, c2, -⟩ := HV.out.rowAt (List.getElem?_eq_getElem h0)
      rw [Nat.add_zero, ← Mat.getD_lt h0 []] at c2
      obtain ⟨p, hp⟩ : ∃ p, ls[i].length = p := ⟨_, rfl⟩
      obtain ⟨q, hq⟩ : ∃ q, (ls.getD 0 []).length = q := ⟨_, rfl⟩
      rw [hp] at c1
      rw [hq] at c2
      have HP := Lib.hid hp
      have HQ := Lib.hid hq
      clear hp hq
      by_cases hr : p = q
      · have q1 : ((p : Int) != (q : Int)) = false := (bne_len _ _).trans (decide_eq_false (fun h => h hr))
        have HR := Lib.hid hr
        clear hr
        go_wp2_with fail
        refine ⟨⟨i + 1, by omega, by go_num, Lib.hid fun j r hj hjr => ?_⟩, by simp [intOf]; omega⟩
        by_cases e : j = i
        · subst e
          rw [List.getElem?_eq_getElem hlt] at hjr
          cases hjr
          rw [HP.out, HQ.out, HR.out]
        · exact hJ.out j r (by omega) hjr
      · have q1 : ((p : Int) != (q : Int)) = true := (bne_len _ _).trans (decide_eq_true hr)
        have q2 : Hid (d = false) := Lib.hid (by
          cases d with
          | false => rfl
          | true =>
            have := HD.out.1 rfl _ (List.getElem_mem hlt)
            rw [HP.out, HQ.out] at this
            exact absurd this hr)
        clear hr
        go_wp2_with fail
        go_ret
        exact ⟨by rw [q2.out]; rfl, rfl⟩
    · have q2 : Hid (d = true) := Lib.hid (HD.out.2 fun r hr => by
        obtain ⟨j, hj⟩ := List.getElem?_of_mem hr
        have := (List.getElem?_eq_some_iff.1 hj).1
        exact hJ.out j r (by omega) hj)
      have hge : ¬ (i : Int) < (ls.length : Int) := by omega
      clear hlt
      go_wp2_with fail
      go_ret
      exact ⟨by rw [q2.out]; rfl, rfl⟩
theorem row_any (cb k nn : Nat) (X : Mat.M) (vb vr : Value) (r : List UInt8) (rows : List (List UInt8)) (n : Nat) (hn : n ≤ 70000) (hr : r.length ≤ rows.length) (hrl : rows.length ≤ 70000) (hlen : ∀ x ∈ rows, x.length ≤ 70000) (w : World) (h : CodeAt w cb k nn X) (hB : Bytes w vb r) (hR : BRows w vr rows) :
    Calls Try.prog 60 #[.pointer (some ⟨cb, 0, none⟩), vb, vr, .int .i64 n] w fun e w' => ∃ a c, e = .returned (.slice a n c) ∧ Own w' w.heap.size 5 (.slice a n c) (bvs (Mat.rowk r rows n r.length)) ∧ Ext w w' := by
  obtain ⟨ra, rc, rfl⟩ := hB.slice
  obtain ⟨ga, gc, rfl⟩ := hR.form
  have HC := Lib.hid h
  have HB := Lib.hid hB
  have HR := Lib.hid hR
  have HE := Lib.hid hlen
  have hmk := make_byt n hn
  have o1 := (AppOut.zeros w w.heap.size n (Nat.le_refl _) hn (.slice none 0 0)).1
  rw [List.nil_append] at o1
  have O1 := Lib.hid o1
  have X1 := Lib.hid ((Ext.refl w).alloc (Nat.le_refl _) (.cells (Array.replicate n (.int .u8 0)) 5))
  clear h hB hR hlen o1
  go_enter Try.func60, Try.ntmps60
  go_wp2_with fail
  clear hmk
  generalize w.alloc (.cells (Array.replicate n (.int .u8 0)) 5) = w1 at O1 X1
  go_loopw [9, 16] (fun v9 v16 wr => ∃ (i : Nat) (oa : Option Addr) (oc : Nat), i ≤ r.length ∧ v16 = .int .i64 (i : Nat) ∧ v9 = .slice oa n oc ∧ Hid (Own wr w.heap.size 5 (.slice oa n oc) (bvs (Mat.rowk r rows n i))) ∧ Ext w wr) (fun _ v16 _ => (r.length - intOf v16).toNat)
  case atStart => exact ⟨0, _, _, by omega, rfl, rfl, O1, X1.out⟩
  case round =>
    obtain ⟨i, oa, oc, hi, rfl, rfl, hO, hE⟩ := hrel
    by_cases hlt : i < r.length
    · have hlt' : (i : Int) < (r.length : Int) := by omega
      have hlr : (i : Int) < (rows.length : Int) := by omega
      obtain ⟨xb, xo, rfl, c1⟩ := (HB.out.ext hE).at (bytes_get hlt)
      obtain ⟨gb, go, sa, sc, rfl, c2, hs⟩ := (HR.out.ext hE).at (List.getElem?_eq_getElem (show i < rows.length by omega))
      obtain ⟨xg, t, -, -, -, c3, -, hT⟩ := (HC.out.ext hE).cells
      have hsl := HE.out _ (List.getElem_mem (show i < rows.length by omega))
      obtain ⟨row, hrow⟩ : ∃ row, rows[i]'(by omega) = row := ⟨_, rfl⟩
      have hgd : rows.getD i [] = row := by rw [Mat.getD_lt (by omega) [], hrow]
      rw [hrow] at c2 hs hsl
      obtain ⟨x, hx⟩ : ∃ x, r.getD i 0 = x := ⟨_, rfl⟩
      rw [hx] at c1
      have mg : ∀ w', Ext wr w' → Calls Try.prog 49 #[.pointer (some ⟨t, 0, none⟩), .slice oa n oc, .slice sa row.length sc, .int .u8 x.toNat] w' fun e w5 =>
          ∃ ua uc, e = .returned (.slice ua n uc) ∧ Hid (Own w5 w.heap.size 5 (.slice ua n uc) (bvs (Mat.rowk r rows n (i + 1))) ∧ Ext w w5) := by
        intro w' e
        refine (muladd_any t (Mat.rowk r rows n i) row x _ _ _ (hT.ext e) (by rw [Mat.rowk_len]; omega) (by omega) (hO.out.cells.ext e) (hs.ext e)).mono ?_
        rintro e' w5 ⟨u, rfl, hU, hx5⟩
        have hul : (mad (Mat.rowk r rows n i) row x).length = n := by rw [mad_length, Mat.rowk_len]
        obtain ⟨ua, uc, rfl⟩ := Bytes.slice hU.cells
        rw [hul] at hU ⊢
        refine ⟨ua, uc, rfl, Lib.hid ⟨?_, Ext.trans (Ext.trans hE e) hx5⟩⟩
        show Own w5 w.heap.size _ _ (bvs (mad (Mat.rowk r rows n i) (rows.getD i []) (r.getD i 0)))
        rw [hgd, hx]
        exact hU.mono (Nat.le_trans hE.size e.size)
      have MG := Lib.hid mg
      clear mg hs hT hgd hsl hrow hx
      go_wp2_with fail
      go_region_with (go_at_call 49; refine (MG.out _ (Ext.of_drawn _ 1)).mono ?_; rintro e w5 ⟨ua, uc, rfl, hst⟩)
      all_goals
        clear c1 c2 c3 MG
        go_wp2_with fail
        exact ⟨⟨i + 1, _, _, by omega, by go_num, rfl, Lib.hid hst.out.1, hst.out.2⟩, by simp [intOf]; omega⟩
    · obtain rfl : i = r.length := by omega
      clear hlt
      go_wp2_with fail
      go_ret
      exact ⟨_, _, rfl, hO.out, hE⟩
end Go.Proofs.Ytdmdcgcmappliaa
