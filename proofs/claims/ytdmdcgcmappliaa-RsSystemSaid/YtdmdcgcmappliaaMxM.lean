/-
  MatrixThree.
-/
import Derived.Test.YtdmdcgcmappliaaMxL
namespace Go.Proofs.Ytdmdcgcmappliaa
open Go.RowKit
set_option maxRecDepth 100000
set_option maxHeartbeats 4000000
attribute [local go_sem] min_int2 max_int2 bstr_toList

def SmallM (a : Mat.M) : Prop := a.length ≤ 40 ∧ ∀ r ∈ a, r.length ≤ 40
theorem smallT (v : Value) (ls : Mat.M) (h : SmallM ls) (w : World) (hV : BRows w v ls) : Calls Try.prog 17 #[v] w fun e w' => e = .returned (.bool true) ∧ w = w' :=
  small_any v ls true ⟨fun _ => h, fun _ => rfl⟩ w hV
theorem smallF (v : Value) (ls : Mat.M) (h : ¬ SmallM ls) (w : World) (hV : BRows w v ls) : Calls Try.prog 17 #[v] w fun e w' => e = .returned (.bool false) ∧ w = w' :=
  small_any v ls false ⟨fun e => Bool.noConfusion e, fun k => absurd k h⟩ w hV
def MayMul (a b : Mat.M) : Prop := Mat.Good a ∧ Mat.Good b ∧ (a.getD 0 []).length = b.length
theorem MayMul.parts {a b : Mat.M} (h : MayMul a b) : ∃ n k m, (1 ≤ n ∧ n ≤ 255) ∧ (1 ≤ k ∧ k ≤ 255) ∧ (1 ≤ m ∧ m ≤ 255) ∧ Mat.Sh a n k ∧ Mat.Sh b k m := by
  obtain ⟨h1, h2, h3⟩ := h
  obtain ⟨a1, a2, a3, a4, a5⟩ := h1.sides
  obtain ⟨b1, b2, b3, b4, b5⟩ := h2.sides
  exact ⟨a.length, b.length, (b.getD 0 []).length, ⟨a1, a2⟩, ⟨b1, b2⟩, ⟨b3, b4⟩, h3 ▸ a5, b5⟩

theorem three_any (w : World) (va : Value) (a : Mat.M) (ha : BRows w va a) (_la : a.length ≤ maxLen) (_ra : ∀ l ∈ a, l.length ≤ maxLen) (vb : Value) (b : Mat.M) (hb : BRows w vb b) (_lb : b.length ≤ maxLen) (_rb : ∀ l ∈ b, l.length ≤ maxLen) (vc : Value) (c : Mat.M) (hc : BRows w vc c) (_lc : c.length ≤ maxLen) (_rc : ∀ l ∈ c, l.length ≤ maxLen) :
    Calls Try.prog 5 #[va, vb, vc] w fun e w' => e = .returned (.bool true) ∧ Ext w w' := by
  obtain ⟨aa, ac, rfl⟩ := ha.form
  obtain ⟨ba, bc, rfl⟩ := hb.form
  obtain ⟨ca, cc, rfl⟩ := hc.form
  have HA := Lib.hid ha
  have HB := Lib.hid hb
  have HC := Lib.hid hc
  clear ha hb hc _la _ra _lb _rb _lc _rc
  go_enter Try.func5, Try.ntmps5
  go_wp2_with fail
  refine (mawake_any _).mono ?_; rintro e w1 ⟨rfl, x1⟩
  have HA1 := Lib.hid (HA.out.ext x1)
  have HB1 := Lib.hid (HB.out.ext x1)
  have HC1 := Lib.hid (HC.out.ext x1)
  have X1 := Lib.hid x1
  clear x1 HA HB HC
  by_cases sa : SmallM a
  case neg =>
    have S := Lib.hid sa
    clear sa
    go_wp2_with fail
    refine (smallF _ a S.out _ HA1.out).mono ?_; rintro e w' ⟨rfl, rfl⟩
    go_wp2_with fail
    go_ret
    exact ⟨rfl, X1.out⟩
  by_cases sb : SmallM b
  case neg =>
    have S1 := Lib.hid sa
    have S := Lib.hid sb
    clear sa sb
    go_wp2_with fail
    refine (smallT _ a S1.out _ HA1.out).mono ?_; rintro e w' ⟨rfl, rfl⟩
    go_wp2_with fail
    refine (smallF _ b S.out _ HB1.out).mono ?_; rintro e w' ⟨rfl, rfl⟩
    go_wp2_with fail
    go_ret
    exact ⟨rfl, X1.out⟩
  by_cases sc : SmallM c
  case neg =>
    have S1 := Lib.hid sa
    have S2 := Lib.hid sb
    have S := Lib.hid sc
    clear sa sb sc
    go_wp2_with fail
    refine (smallT _ a S1.out _ HA1.out).mono ?_; rintro e w' ⟨rfl, rfl⟩
    go_wp2_with fail
    refine (smallT _ b S2.out _ HB1.out).mono ?_; rintro e w' ⟨rfl, rfl⟩
    go_wp2_with fail
    refine (smallF _ c S.out _ HC1.out).mono ?_; rintro e w' ⟨rfl, rfl⟩
    go_wp2_with fail
    go_ret
    exact ⟨rfl, X1.out⟩
  have S1 := Lib.hid sa
  have S2 := Lib.hid sb
  have S := Lib.hid sc
  clear sa sb sc
  go_wp2_with fail
  refine (smallT _ a S1.out _ HA1.out).mono ?_; rintro e w' ⟨rfl, rfl⟩
  go_wp2_with fail
  refine (smallT _ b S2.out _ HB1.out).mono ?_; rintro e w' ⟨rfl, rfl⟩
  go_wp2_with fail
  refine (smallT _ c S.out _ HC1.out).mono ?_; rintro e w' ⟨rfl, rfl⟩
  go_wp2_with fail
  by_cases hab : MayMul a b
  · obtain ⟨n, k, m, b1, b2, b3, SA, SB⟩ := hab.parts
    have SAh := Lib.hid SA
    have SBh := Lib.hid SB
    have B := Lib.hid (And.intro b1 (And.intro b2 b3))
    clear b1 b2 b3 SA SB hab
    refine (mul_any _ _ a b n k m B.out.1 B.out.2.1 B.out.2.2 SAh.out SBh.out _ HA1.out HB1.out).mono ?_; rintro e w2 ⟨g1, rfl, hM, x2⟩
    have HA2 := Lib.hid (HA1.out.ext x2)
    have HB2 := Lib.hid (HB1.out.ext x2)
    have HC2 := Lib.hid (HC1.out.ext x2)
    have HM2 := Lib.hid hM
    have X2 := Lib.hid (Ext.trans X1.out x2)
    clear x2 hM HA1 HB1 HC1
    go_wp2_with fail
    by_cases hbc : MayMul b c
    · obtain ⟨k', m', l, c1, c2, c3, SB', SC⟩ := hbc.parts
      obtain rfl : k' = k := by rw [← SB'.1, SBh.out.1]
      obtain rfl : m' = m := by
        have q1 := SB'.row (i := 0) (by omega)
        have q2 := SBh.out.row (i := 0) (by omega)
        omega
      have SCh := Lib.hid SC
      have C3 := Lib.hid c3
      clear c1 c2 c3 SB' SC hbc
      refine (mul_any _ _ b c k' m' l B.out.2.1 B.out.2.2 C3.out SBh.out SCh.out _ HB2.out HC2.out).mono ?_; rintro e w3 ⟨g2, rfl, hN, x3⟩
      have HA3 := Lib.hid (HA2.out.ext x3)
      have HC3 := Lib.hid (HC2.out.ext x3)
      have HM3 := Lib.hid (HM2.out.ext x3)
      have HN3 := Lib.hid hN
      have X3 := Lib.hid (Ext.trans X2.out x3)
      have M1 := Lib.hid (Mat.mmul_sh (m := m') (b := b) SAh.out)
      have M2 := Lib.hid (Mat.mmul_sh (m := l) (b := c) SBh.out)
      clear x3 hN HA2 HB2 HC2 HM2
      go_wp2_with fail
      refine (mul_any _ _ (Mat.mmul a b m') c n m' l B.out.1 B.out.2.2 C3.out M1.out SCh.out _ (HM3.out.brows (by rw [M1.out.1])) HC3.out).mono ?_; rintro e w4 ⟨g3, rfl, hP, x4⟩
      have HA4 := Lib.hid (HA3.out.ext x4)
      have HN4 := Lib.hid (HN3.out.ext x4)
      have HP4 := Lib.hid hP
      have X4 := Lib.hid (Ext.trans X3.out x4)
      clear x4 hP HA3 HC3 HM3 HN3
      go_wp2_with fail
      refine (mul_any _ _ a (Mat.mmul b c l) n k' l B.out.1 B.out.2.1 C3.out SAh.out M2.out _ HA4.out (HN4.out.brows (by rw [M2.out.1]))).mono ?_; rintro e w5 ⟨g4, rfl, hR, x5⟩
      have HP5 := Lib.hid (HP4.out.ext x5)
      have HR5 := Lib.hid hR
      have X5 := Lib.hid (Ext.trans X4.out x5)
      have P1 := Lib.hid (Mat.mmul_sh (m := l) (b := c) M1.out)
      have P2 := Lib.hid (Mat.mmul_sh (m := l) (b := Mat.mmul b c l) SAh.out)
      clear x5 hR HA4 HN4 HP4
      go_wp2_with fail
      refine (rsame_any _ _ _ _ true ⟨fun _ => Mat.mmul_assoc SAh.out SBh.out SCh.out, fun _ => rfl⟩ (by rw [P1.out.1]; have := B.out.1; unfold maxLen; omega) _ (HP5.out.brows (by rw [P1.out.1])) (HR5.out.brows (by rw [P2.out.1]))).mono ?_; rintro e w6 ⟨rfl, q, hq⟩
      have X6 := Lib.hid (Ext.trans X5.out (by rw [hq]; exact Ext.of_drawn _ _ : Ext w5 w6))
      clear hq
      go_wp2_with fail
      go_ret
      exact ⟨rfl, X6.out⟩
    · have N2 := Lib.hid hbc
      clear hbc
      refine (mul_no _ _ b c N2.out _ HB2.out HC2.out).mono ?_; rintro e w3 ⟨rfl, x3⟩
      have X3 := Lib.hid (Ext.trans X2.out x3)
      clear x3
      go_wp2_with fail
      go_ret
      exact ⟨rfl, X3.out⟩
  · have N1 := Lib.hid hab
    clear hab
    refine (mul_no _ _ a b N1.out _ HA1.out HB1.out).mono ?_; rintro e w2 ⟨rfl, x2⟩
    have HB2 := Lib.hid (HB1.out.ext x2)
    have HC2 := Lib.hid (HC1.out.ext x2)
    have X2 := Lib.hid (Ext.trans X1.out x2)
    clear x2
    go_wp2_with fail
    by_cases hbc : MayMul b c
    · obtain ⟨k', m', l, c1, c2, c3, SB', SC⟩ := hbc.parts
      have SBh := Lib.hid SB'
      have SCh := Lib.hid SC
      have C := Lib.hid (And.intro c1 (And.intro c2 c3))
      clear c1 c2 c3 SB' SC hbc
      refine (mul_any _ _ b c k' m' l C.out.1 C.out.2.1 C.out.2.2 SBh.out SCh.out _ HB2.out HC2.out).mono ?_; rintro e w3 ⟨g2, rfl, hN, x3⟩
      have X3 := Lib.hid (Ext.trans X2.out x3)
      clear x3 hN
      go_wp2_with fail
      go_ret
      exact ⟨rfl, X3.out⟩
    · have N2 := Lib.hid hbc
      clear hbc
      refine (mul_no _ _ b c N2.out _ HB2.out HC2.out).mono ?_; rintro e w3 ⟨rfl, x3⟩
      have X3 := Lib.hid (Ext.trans X2.out x3)
      clear x3
      go_wp2_with fail
      go_ret
      exact ⟨rfl, X3.out⟩
end Go.Proofs.Ytdmdcgcmappliaa
