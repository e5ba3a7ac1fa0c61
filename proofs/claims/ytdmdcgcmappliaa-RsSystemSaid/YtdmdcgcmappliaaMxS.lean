/-
  MatrixPowers.
-/
import Derived.Test.YtdmdcgcmappliaaMxM
import Derived.Test.YtdmdcgcmappliaaMxR
namespace Go.Proofs.Ytdmdcgcmappliaa
open Go.RowKit
set_option maxRecDepth 100000
set_option maxHeartbeats 4000000
attribute [local go_sem] min_int2 max_int2 bstr_toList

theorem rsame_eq2 (v u : Value) (ls : List (List UInt8)) (hl : ls.length ≤ maxLen) (w : World) (hV : BRows w v ls) (hU : BRows w u ls) :
    Calls Try.prog 20 #[v, u] w fun e w' => e = .returned (.bool true) ∧ Ext w w' :=
  (rsame_any v u ls ls true (by simp) hl w hV hU).mono fun e w' ⟨h, m, hm⟩ => ⟨h, hm ▸ Ext.of_drawn _ _⟩

theorem wrap_mod (x : UInt8) (m n : Nat) (hm : 0 < m) (hm2 : m ≤ 1000) (h : 1 + x.toNat % m = n) : Go.RowKit.wrap64 (1 + (Go.RowKit.wrap64 (x.toNat : Int)).tmod (m : Int)) = (n : Int) := by
  have hx := x.toNat_lt
  have h1 := Nat.mod_lt x.toNat hm
  rw [show Go.RowKit.wrap64 (x.toNat : Int) = (x.toNat : Int) from by unfold Go.RowKit.wrap64; omega, ← Int.ofNat_tmod]
  unfold Go.RowKit.wrap64
  omega
theorem vrows_ne (n k i : Nat) (hn : n ≤ 60) (hk : 1 < k) (hi : i + 1 < n) : (Mat.vand n k).getD (i + 1) [] ≠ (Mat.vand n k).getD i [] := by
  intro h
  have h1 : Mat.en (Mat.vand n k) (i + 1) 1 = Mat.en (Mat.vand n k) i 1 := by
    show ((Mat.vand n k).getD (i + 1) []).getD 1 0 = ((Mat.vand n k).getD i []).getD 1 0
    rw [h]
  rw [Mat.vand_en n k (i + 1) hi 1 hk, Mat.vand_en n k i (by omega) 1 hk] at h1
  have h2 : ∀ x : UInt8, Mat.pw x 1 = x := fun x => by
    exact Mat.g8_one_left x
  have h1 : Mat.pw (UInt8.ofNat (i + 1)) 1 = Mat.pw (UInt8.ofNat i) 1 := h1
  rw [h2, h2] at h1
  have := Mat.ofNat_inj (by omega) (by omega) h1
  omega
theorem powers_any (w : World) (x y : UInt8) :
    Calls Try.prog 4 #[bv x, bv y] w fun e w' => e = .returned (.bool true) ∧ Ext w w' := by
  obtain ⟨n, hn⟩ : ∃ n : Nat, 1 + x.toNat % 60 = n := ⟨_, rfl⟩
  obtain ⟨k, hk⟩ : ∃ k : Nat, 1 + y.toNat % 20 = k := ⟨_, rfl⟩
  have f1 := Lib.hid (wrap_mod x 60 n (by omega) (by omega) hn)
  have f2 := Lib.hid (wrap_mod y 20 k (by omega) (by omega) hk)
  have n1 : 1 ≤ n := by omega
  have n2 : n ≤ 60 := by omega
  have k1 : 1 ≤ k := by omega
  have k2 : k ≤ 20 := by omega
  clear hn hk
  go_enter Try.func4, Try.ntmps4
  go_wp2_with fail
  refine (mawake_any _).mono ?_; rintro e w1 ⟨rfl, x1⟩
  have X1 := Lib.hid x1
  clear x1
  go_wp2_with fail
  rw [show Go.RowKit.wrap64 (1 + (Go.RowKit.wrap64 (x.toNat : Int)).tmod 60) = (n : Int) from f1.out, show Go.RowKit.wrap64 (1 + (Go.RowKit.wrap64 (y.toNat : Int)).tmod 20) = (k : Int) from f2.out]
  clear f1 f2
  refine (vand_any n k n1 (by omega) k1 (by omega) _).mono ?_; rintro e w2 ⟨g2, vs2, rfl, hV, x2⟩
  have VS := Lib.hid (Mat.vand_sh n k)
  have HV2 := Lib.hid (hV.mr.brows (n := n) (by rw [(Mat.vand_sh n k).1]))
  have X2 := Lib.hid (Ext.trans X1.out x2)
  clear x2 hV
  go_wp2_with fail
  refine (rvand_any n k n1 (by omega) k1 (by omega) _).mono ?_; rintro e w3 ⟨u3, rfl, hU, x3⟩
  have HV3 := Lib.hid (HV2.out.ext x3)
  have HU3 := Lib.hid hU.brows
  have X3 := Lib.hid (Ext.trans X2.out x3)
  clear x3 hU HV2
  go_wp2_with fail
  refine (rsame_eq2 _ _ (Mat.vand n k) (by rw [VS.out.1]; unfold maxLen; omega) _ HV3.out HU3.out).mono ?_; rintro e w4 ⟨rfl, x4⟩
  have HV4 := Lib.hid (HV3.out.ext x4)
  have X4 := Lib.hid (Ext.trans X3.out x4)
  clear x4 HV3 HU3
  go_wp2_with fail
  refine (vand_any k k k1 (by omega) k1 (by omega) _).mono ?_; rintro e w5 ⟨g5, vs5, rfl, hW, x5⟩
  have HV5 := Lib.hid (HV4.out.ext x5)
  have HW5 := Lib.hid (hW.mr.brows (n := k) (by rw [(Mat.vand_sh k k).1]))
  have X5 := Lib.hid (Ext.trans X4.out x5)
  clear x5 hW HV4
  go_wp2_with fail
  obtain ⟨z, hz⟩ := Mat.vand_inv k (by omega)
  refine (invert_any _ (Mat.vand k k) k ⟨k1, by omega⟩ (Mat.vand_sh k k) _ HW5.out).mono ?_
  rintro e w6 (⟨hn, -, -⟩ | ⟨z', g6, hz', rfl, hZ, x6⟩)
  · rw [hz] at hn; cases hn
  have HV6 := Lib.hid (HV5.out.ext x6)
  have X6 := Lib.hid (Ext.trans X5.out x6)
  clear x6 hZ hz hz' HV5 HW5
  go_wp2_with fail
  go_loopw [11] (fun v11 wr => ∃ p : Nat, p + 1 ≤ n ∧ v11 = .int .i64 ((p : Int) + 1) ∧ Ext w6 wr) (fun v11 _ => (n - intOf v11).toNat)
  case atStart => exact ⟨0, by omega, by go_num, Ext.refl _⟩
  case round =>
    obtain ⟨p, hp, rfl, hE⟩ := hrel
    have X7 := Lib.hid (Ext.trans X6.out hE)
    by_cases hlt : p + 1 < n
    · have hlt' : (p : Int) + 1 < (n : Int) := by omega
      by_cases hk1 : 1 < k
      · obtain ⟨q1, q2⟩ := VS.out.get hlt
        obtain ⟨q3, q4⟩ := VS.out.get (show p < n by omega)
        obtain ⟨ra, rc, c1, hb1⟩ := (HV6.out.ext hE).rowAt q1
        obtain ⟨sa, sc, d1, hb2⟩ := (HV6.out.ext hE).rowAt q3
        have hne := vrows_ne n k p n2 hk1 hlt
        rw [Nat.zero_add, q2] at c1
        rw [Nat.zero_add, q4] at d1
        rw [q2] at hb1
        rw [q4] at hb2
        generalize (Mat.vand n k).getD (p + 1) [] = l1 at hb1 hne
        generalize (Mat.vand n k).getD p [] = l2 at hb2 hne
        have y1 := str_conv hb1
        have y2 := str_conv hb2
        have z1 := fun n => y1 (wr.drewN n) (Ext.of_drawn wr n)
        have z2 := fun n => y2 (wr.drewN n) (Ext.of_drawn wr n)
        have q0 : (l1 == l2) = false := beq_eq_false_iff_ne.2 hne
        have r1 : ((p : Int) + 1).toNat = p + 1 := by omega
        have r2 : 0 ≤ (p : Int) + 1 := by omega
        have r3 : (p : Int) < (n : Int) := by omega
        clear q1 q2 q3 q4 hb1 hb2 y1 y2 hne
        go_wp2_with fail
        go_quiet (fail)
        have x8 : Ext w6 (wr.drewN nq) := Ext.trans hE (Ext.of_drawn _ _)
        generalize wr.drewN nq = wt at x8 ⊢
        go_wp2_with fail
        exact ⟨⟨p + 1, by omega, by go_num, x8⟩, by simp [intOf]; omega⟩
      · obtain rfl : k = 1 := by omega
        clear hk1
        go_wp2_with fail
        go_ret
        exact ⟨rfl, X7.out⟩
    · obtain rfl : n = p + 1 := by omega
      clear hlt
      go_wp2_with fail
      go_ret
      exact ⟨rfl, X7.out⟩
end Go.Proofs.Ytdmdcgcmappliaa
