/-
  ArrayMeets: the walk.
-/
import Derived.Test.YthkbbcdnmdjhdaaArH
/-! XArI: ArrayMeets: the walk. -/
namespace Go.Proofs.Ythkbbcdnmdjhdaa
open Go.RowKit Dk
set_option maxRecDepth 100000
set_option maxHeartbeats 4000000
attribute [local go_sem] min_int2 max_int2 bstr_toList

theorem meets_law (w : World) (sk : Int) (_bk : -9223372036854775808 ≤ sk ∧ sk ≤ 9223372036854775807) (sm : Int) (_bm : -9223372036854775808 ≤ sm ∧ sm ≤ 9223372036854775807) (sb : Int) (_bb : -9223372036854775808 ≤ sb ∧ sb ≤ 9223372036854775807) (a : Nat) (_ha : a < 4294967296) (b : Nat) (_hb : b < 4294967296) :
    Calls Try.prog 3 #[.agg #[.int .i64 sk, .int .i64 sm, .int .i64 sb], .int .u32 a, .int .u32 b] w fun e w' => e = .returned (.bool true) ∧ Ext w w' := by
  have hL1 := (Lab.start w).newrow 23 #[.int .i64 sk, .int .i64 sm, .int .i64 sb]
  obtain ⟨bb, hbb⟩ : ∃ bb, w.heap.size = bb := ⟨_, rfl⟩
  rw [hbb] at hL1
  go_enter Try.func3, Try.ntmps3
  go_wp2_with fail
  refine (aawake_any _).mono ?_; rintro e w2 ⟨rfl, x2⟩
  have L2 := Lib.hid (hL1.ext x2)
  have c0 := (rowT.row L2.out.left).cell (i := 0) (v := .int .i64 sk) rfl
  have c1 := (rowT.row L2.out.left).cell (i := 1) (v := .int .i64 sm) rfl
  have c2 := (rowT.row L2.out.left).cell (i := 2) (v := .int .i64 sb) rfl
  clear hL1 x2 hbb
  go_wp2_with fail
  by_cases hr : 1 ≤ sk ∧ sk ≤ 12 ∧ 1 ≤ sm ∧ sm ≤ 12
  case neg =>
    have HR := Lib.hid hr
    clear hr
    refine (make_bad sk sm sb 10 HR.out _).mono ?_; rintro e w3 ⟨rfl, x3⟩
    have X3 := Lib.hid (Ext.trans L2.out.toExt x3)
    clear x3
    go_wp2_with fail
    go_ret
    exact ⟨rfl, X3.out⟩
  refine (make_any sk sm sb 10 hr w _ _ L2.out).mono ?_
  rintro e w3 (⟨-, rfl, x3⟩ | ⟨P, K, M, B, hm, rfl, hL⟩)
  · go_wp2_with fail
    go_ret
    exact ⟨rfl, x3⟩
  have HM := Lib.hid hm
  have L3 := Lib.hid hL
  obtain ⟨p0, -, -, -, -⟩ := memP.cells hL
  have rb := rowT.row hL.right.right.right.right.right.right.right.right.left
  replace c0 := rb.cell (i := 0) (v := .int .i64 sk) rfl
  have hk1 := hm.k1
  have hk2 := hm.k2
  have hm1 := hm.m1
  have hm2 := hm.m2
  have hsk := hm.k
  subst hsk
  obtain ⟨n, hn⟩ : ∃ n, K + M = n := ⟨_, rfl⟩
  obtain ⟨q, hq⟩ : ∃ q, quo K M = q := ⟨_, rfl⟩
  have q0 : K ≤ q ∧ q ≤ n ∧ n < 2 * q ∧ q ≤ 24 ∧ n ≤ 24 := by rw [← hq, ← hn]; unfold quo; omega
  have HNQ := Lib.hid (And.intro hn hq)
  have S0 : (fun w' : World => w'.cell? ⟨P.pb, 0, none⟩ = some (.pointer (some ⟨P.A.ab, 0, none⟩)) ∧ w'.cell? ⟨bb, 0, none⟩ = some (.int .i64 K)) w3.drew := ⟨p0, c0⟩
  have FN : Hid (Calls Try.prog 11 #[.pointer (some ⟨P.A.ab, 0, none⟩)] w3.drew fun e w' => e = .returned (.int .i64 (n : Nat)) ∧ (fun w' : World => w'.cell? ⟨P.pb, 0, none⟩ = some (.pointer (some ⟨P.A.ab, 0, none⟩)) ∧ w'.cell? ⟨bb, 0, none⟩ = some (.int .i64 K)) w' ∧ Ext w3 w') := Lib.hid ((aN_any P.A w _ (memP.arr L3.out.drew)).mono fun e w' ⟨h1, h2⟩ => by
    subst h2
    exact ⟨by rw [h1, HM.out.an, HNQ.out.1], S0, Ext.of_drawn _ 1⟩)
  have FQ : Hid (∀ W, Ext w3 W → Calls Try.prog 12 #[.pointer (some ⟨P.A.ab, 0, none⟩)] W fun e w' => e = .returned (.int .i64 (q : Nat)) ∧ (fun w' : World => w'.cell? ⟨P.pb, 0, none⟩ = some (.pointer (some ⟨P.A.ab, 0, none⟩)) ∧ w'.cell? ⟨bb, 0, none⟩ = some (.int .i64 K)) w' ∧ Ext w3 w') := Lib.hid fun W x => (aquorum_any P.A _ (HM.out.okb (most := 10)) w W (memP.arr (L3.out.ext x))).mono fun e w' ⟨h1, h2⟩ =>
    ⟨by rw [h1, HM.out.aK, HM.out.aM, HNQ.out.2], ⟨(Ext.trans x h2).cell p0, (Ext.trans x h2).cell c0⟩, Ext.trans x h2⟩
  clear hL hm hn hq rb c1 c2 hr
  go_wp2_with fail
  go_region_held3 (fun w' : World => w'.cell? ⟨P.pb, 0, none⟩ = some (.pointer (some ⟨P.A.ab, 0, none⟩)) ∧ w'.cell? ⟨bb, 0, none⟩ = some (.int .i64 K)) (assumption) (first | (go_at_call 11; refine FN.out.mono ?_; rintro e w4 ⟨rfl, hS4, hx4⟩) | (go_at_call 12; refine (FQ.out _ hx4).mono ?_; rintro e w5 ⟨rfl, hS5, hx5⟩))
  have X5 := Lib.hid (Ext.trans L3.out.toExt hx5)
  replace c0 := hS5.2
  obtain ⟨q1, q2, q3, q4, q5⟩ := q0
  clear FN FQ S0 hS4 hS5 hx4 hx5 p0
  go_wp2_with fail
  go_loop [10, 11, 12, 13] (fun v10 v11 v12 v13 => ∃ (x y z i : Nat), i ≤ n ∧ x ≤ i ∧ y ≤ i ∧ z ≤ i ∧ x + y ≤ z + i ∧ v10 = .int .i64 (x : Nat) ∧ v11 = .int .i64 (y : Nat) ∧ v12 = .int .i64 (z : Nat) ∧ v13 = .int .i64 (i : Nat)) (fun _ _ _ v13 => (n - intOf v13).toNat)
  case atStart => exact ⟨0, 0, 0, 0, by omega, by omega, by omega, by omega, by omega, rfl, rfl, rfl, rfl⟩
  case round =>
    obtain ⟨x, y, z, i, hi, hx, hy, hz, hxy, rfl, rfl, rfl, rfl⟩ := hrel
    by_cases hlt : i < n
    · have hlt' : (i : Int) < (n : Int) := by omega
      go_wp2_with fail
      all_goals first
        | exact ⟨⟨x + 1, y + 1, z + 1, i + 1, by omega, by omega, by omega, by omega, by omega, by go_num, by go_num, by go_num, by go_num⟩, by simp [intOf]; omega⟩
        | exact ⟨⟨x + 1, y, z, i + 1, by omega, by omega, by omega, by omega, by omega, by go_num, rfl, rfl, by go_num⟩, by simp [intOf]; omega⟩
        | exact ⟨⟨x, y + 1, z, i + 1, by omega, by omega, by omega, by omega, by omega, rfl, by go_num, rfl, by go_num⟩, by simp [intOf]; omega⟩
        | exact ⟨⟨x, y, z, i + 1, by omega, by omega, by omega, by omega, by omega, rfl, rfl, rfl, by go_num⟩, by simp [intOf]; omega⟩
    · obtain rfl : i = n := by omega
      have f1 : (K : Int) ≤ (q : Int) := by omega
      have f2 : (q : Int) ≤ (i : Int) := by omega
      have f3 : (i : Int) < 2 * (q : Int) := by omega
      clear hlt
      by_cases g1 : (x : Int) < (q : Int)
      · go_wp2_with fail
        go_ret
        exact ⟨rfl, X5.out⟩
      by_cases g2 : (y : Int) < (q : Int)
      · go_wp2_with fail
        go_ret
        exact ⟨rfl, X5.out⟩
      have g3 : 0 < (z : Int) := by omega
      go_wp2_with fail
      go_ret
      exact ⟨rfl, X5.out⟩
end Go.Proofs.Ythkbbcdnmdjhdaa
