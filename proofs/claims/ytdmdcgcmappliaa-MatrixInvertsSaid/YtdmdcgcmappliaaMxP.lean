/-
  MatrixInverts.
-/
import Derived.Test.YtdmdcgcmappliaaMxM
import Derived.Test.YtdmdcgcmappliaaMxO
namespace Go.Proofs.Ytdmdcgcmappliaa
open Go.RowKit
set_option maxRecDepth 100000
set_option maxHeartbeats 4000000
attribute [local go_sem] min_int2 max_int2 bstr_toList

theorem rsame_same (v u : Value) (ls : List (List UInt8)) (hl : ls.length ≤ maxLen) (w : World) (hV : BRows w v ls) (hU : BRows w u ls) :
    Calls Try.prog 20 #[v, u] w fun e w' => e = .returned (.bool true) ∧ Ext w w' :=
  (rsame_any v u ls ls true (by simp) hl w hV hU).mono fun e w' ⟨h, m, hm⟩ => ⟨h, hm ▸ Ext.of_drawn _ _⟩

theorem inverts_any (w : World) (va : Value) (a : Mat.M) (ha : BRows w va a) (_la : a.length ≤ maxLen) (_ra : ∀ l ∈ a, l.length ≤ maxLen) :
    Calls Try.prog 3 #[va] w fun e w' => e = .returned (.bool true) ∧ Ext w w' := by
  obtain ⟨aa, ac, rfl⟩ := ha.form
  have HA := Lib.hid ha
  clear ha
  go_enter Try.func3, Try.ntmps3
  go_wp2_with fail
  refine (mawake_any _).mono ?_; rintro e w1 ⟨rfl, x1⟩
  have HA1 := Lib.hid (HA.out.ext x1)
  have X1 := Lib.hid x1
  clear x1 HA
  by_cases sa : SmallM a
  case neg =>
    have S := Lib.hid sa
    clear sa
    go_wp2_with fail
    refine (smallF _ a S.out _ HA1.out).mono ?_; rintro e w' ⟨rfl, rfl⟩
    go_wp2_with fail
    go_ret
    exact ⟨rfl, X1.out⟩
  have S := Lib.hid sa
  clear sa
  go_wp2_with fail
  refine (smallT _ a S.out _ HA1.out).mono ?_; rintro e w' ⟨rfl, rfl⟩
  go_wp2_with fail
  refine (rcopy_any _ a (by have := S.out.1; omega) (fun r hr => by have := S.out.2 r hr; omega) _ HA1.out).mono ?_; rintro e w2 ⟨u, rfl, hU, x2⟩
  have HA2 := Lib.hid (HA1.out.ext x2)
  have HU := Lib.hid hU.brows
  have X2 := Lib.hid (Ext.trans X1.out x2)
  clear x2 HA1 hU
  have LM : Hid (a.length ≤ maxLen) := Lib.hid (by have := S.out.1; unfold maxLen; omega)
  go_wp2_with fail
  by_cases sq : ∃ n, 1 ≤ n ∧ n ≤ 255 ∧ Mat.Sh a n n
  case neg =>
    have N := Lib.hid sq
    clear sq
    refine (invert_no _ a N.out _ HA2.out).mono ?_; rintro e w3 ⟨rfl, x3⟩
    have HA3 := Lib.hid (HA2.out.ext x3)
    have HU3 := Lib.hid (HU.out.ext x3)
    have X3 := Lib.hid (Ext.trans X2.out x3)
    clear x3
    go_wp2_with fail
    refine (rsame_same _ _ a LM.out _ HA3.out HU3.out).mono ?_; rintro e w4 ⟨rfl, x4⟩
    have X4 := Lib.hid (Ext.trans X3.out x4)
    clear x4
    go_wp2_with fail
    go_ret
    exact ⟨rfl, X4.out⟩
  obtain ⟨n, n1, n2, SA⟩ := sq
  have SAh := Lib.hid SA
  have BN := Lib.hid (And.intro n1 n2)
  have hA2 := HA2.out
  rw [SA.1] at hA2
  rw [SA.1]
  clear HA2
  have HA2 := Lib.hid hA2
  clear SA hA2
  refine (invert_any _ a n BN.out SAh.out _ HA2.out).mono ?_
  rintro e w3 (⟨hn, rfl, x3⟩ | ⟨z, g, hz, rfl, hZ, x3⟩)
  · have HA3 := Lib.hid (HA2.out.ext x3)
    have HU3 := Lib.hid (HU.out.ext x3)
    have X3 := Lib.hid (Ext.trans X2.out x3)
    clear x3 hn
    go_wp2_with fail
    refine (rsame_same _ _ a LM.out _ HA3.out HU3.out).mono ?_; rintro e w4 ⟨rfl, x4⟩
    have X4 := Lib.hid (Ext.trans X3.out x4)
    clear x4
    go_wp2_with fail
    go_ret
    exact ⟨rfl, X4.out⟩
  · have HA3 := Lib.hid (HA2.out.ext x3)
    have HU3 := Lib.hid (HU.out.ext x3)
    have X3 := Lib.hid (Ext.trans X2.out x3)
    have SZ := Lib.hid (Mat.minv_spec SAh.out hz).1
    have E1 := Lib.hid (Mat.minv_right SAh.out hz)
    have E2 := Lib.hid (Mat.minv_left SAh.out hz)
    have E3 := Lib.hid (Mat.minv_back SAh.out hz)
    have HZ := Lib.hid (hZ.brows (n := n) (by rw [SZ.out.1]))
    clear x3 hz hZ HA2 HU
    go_wp2_with fail
    refine (rsame_same _ _ a LM.out _ HA3.out HU3.out).mono ?_; rintro e w4 ⟨rfl, x4⟩
    have HA4 := Lib.hid (HA3.out.ext x4)
    have HZ4 := Lib.hid (HZ.out.ext x4)
    have X4 := Lib.hid (Ext.trans X3.out x4)
    clear x4 HA3 HU3 HZ
    go_wp2_with fail
    refine (mul_any _ _ a z n n n BN.out BN.out BN.out SAh.out SZ.out _ HA4.out HZ4.out).mono ?_; rintro e w5 ⟨g5, rfl, hM, x5⟩
    rw [E1.out] at hM
    have HA5 := Lib.hid (HA4.out.ext x5)
    have HZ5 := Lib.hid (HZ4.out.ext x5)
    have HY5 := Lib.hid (hM.brows (n := n) (by rw [(Mat.unit_sh n).1]))
    have X5 := Lib.hid (Ext.trans X4.out x5)
    clear x5 hM HA4 HZ4
    go_wp2_with fail
    refine (mul_any _ _ z a n n n BN.out BN.out BN.out SZ.out SAh.out _ HZ5.out HA5.out).mono ?_; rintro e w6 ⟨g6, rfl, hM, x6⟩
    rw [E2.out] at hM
    have HA6 := Lib.hid (HA5.out.ext x6)
    have HZ6 := Lib.hid (HZ5.out.ext x6)
    have HY6 := Lib.hid (HY5.out.ext x6)
    have HW6 := Lib.hid (hM.brows (n := n) (by rw [(Mat.unit_sh n).1]))
    have X6 := Lib.hid (Ext.trans X5.out x6)
    clear x6 hM HA5 HZ5 HY5
    go_wp2_with fail
    refine (invert_any _ z n BN.out SZ.out _ HZ6.out).mono ?_
    rintro e w7 (⟨hn, -, -⟩ | ⟨b, g7, hb, rfl, hB, x7⟩)
    · rw [E3.out] at hn; cases hn
    rw [E3.out] at hb
    cases hb
    have HA7 := Lib.hid (HA6.out.ext x7)
    have HY7 := Lib.hid (HY6.out.ext x7)
    have HW7 := Lib.hid (HW6.out.ext x7)
    have HB7 := Lib.hid (hB.brows (n := n) (by rw [SAh.out.1]))
    have X7 := Lib.hid (Ext.trans X6.out x7)
    clear x7 hB HA6 HY6 HW6 HZ6
    go_wp2_with fail
    have LN : Hid (n ≤ maxLen) := Lib.hid (by have := BN.out.2; unfold maxLen; omega)
    have LU : Hid ((Mat.unit n).length ≤ maxLen) := Lib.hid (by rw [(Mat.unit_sh n).1]; exact LN.out)
    refine (runit_any n BN.out.1 BN.out.2 _).mono ?_; rintro e w8 ⟨p8, rfl, hP, x8⟩
    have HA8 := Lib.hid (HA7.out.ext x8)
    have HY8 := Lib.hid (HY7.out.ext x8)
    have HW8 := Lib.hid (HW7.out.ext x8)
    have HB8 := Lib.hid (HB7.out.ext x8)
    have HP8 := Lib.hid hP.brows
    have X8 := Lib.hid (Ext.trans X7.out x8)
    clear x8 hP HA7 HY7 HW7 HB7
    go_wp2_with fail
    refine (rsame_same _ _ (Mat.unit n) LU.out _ HY8.out HP8.out).mono ?_; rintro e w9 ⟨rfl, x9⟩
    have HA9 := Lib.hid (HA8.out.ext x9)
    have HW9 := Lib.hid (HW8.out.ext x9)
    have HB9 := Lib.hid (HB8.out.ext x9)
    have X9 := Lib.hid (Ext.trans X8.out x9)
    clear x9 HA8 HY8 HW8 HB8 HP8
    go_wp2_with fail
    refine (runit_any n BN.out.1 BN.out.2 _).mono ?_; rintro e w10 ⟨p10, rfl, hP, x10⟩
    have HA10 := Lib.hid (HA9.out.ext x10)
    have HW10 := Lib.hid (HW9.out.ext x10)
    have HB10 := Lib.hid (HB9.out.ext x10)
    have HP10 := Lib.hid hP.brows
    have X10 := Lib.hid (Ext.trans X9.out x10)
    clear x10 hP HA9 HW9 HB9
    go_wp2_with fail
    refine (rsame_same _ _ (Mat.unit n) LU.out _ HW10.out HP10.out).mono ?_; rintro e w11 ⟨rfl, x11⟩
    have HA11 := Lib.hid (HA10.out.ext x11)
    have HB11 := Lib.hid (HB10.out.ext x11)
    have X11 := Lib.hid (Ext.trans X10.out x11)
    clear x11 HA10 HW10 HB10 HP10
    go_wp2_with fail
    refine (rsame_same _ _ a LM.out _ HB11.out HA11.out).mono ?_; rintro e w12 ⟨rfl, x12⟩
    have X12 := Lib.hid (Ext.trans X11.out x12)
    clear x12
    go_wp2_with fail
    go_ret
    exact ⟨rfl, X12.out⟩
end Go.Proofs.Ytdmdcgcmappliaa
