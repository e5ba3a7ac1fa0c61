/-
  matrix.pivot.
-/
import Derived.Test.YtdmdcgcmappliaaMxC
namespace Go.Proofs.Ytdmdcgcmappliaa
open Go.RowKit
set_option maxRecDepth 100000
set_option maxHeartbeats 4000000
attribute [local go_sem] min_int2 max_int2

theorem MR.drew {w : World} {B g : Nat} {ls : List (List UInt8)} (h : MR w B g ls) : MR w.drew B g ls := h.ext (Ext.of_drawn w 1)
theorem MR.swap {w : World} {B g : Nat} {x : Mat.M} (h : MR w B g x) (c p : Nat) {vc vp : Value} (b1 : Bytes w vc (x.getD c [])) (b2 : Bytes w vp (x.getD p [])) :
    MR (((w.setCell ⟨g, c, none⟩ vp).setCell ⟨g, p, none⟩ vc).drew) B g (Mat.swap x c p) := by
  have h1 := h.set b2 c
  have h2 := h1.set (b1.other h c vp) p
  exact h2.drew
theorem pivot_any (n c B g h : Nat) (x y : Mat.M) (hn : n ≤ 70000) (hc : c < n) (hx : Mat.Sh x n n) (hy : Mat.Sh y n n) (w : World) (hX : MR w B g x) (hY : MR w B h y) (hgh : h ≠ g) :
    Calls Try.prog 47 #[.slice (some ⟨g, 0, none⟩) n n, .slice (some ⟨h, 0, none⟩) n n, .int .i64 c] w fun e w' =>
      (Mat.pv x n c = none ∧ e = .returned (.bool false) ∧ Below B w w') ∨ (∃ p, Mat.pv x n c = some p ∧ e = .returned (.bool true) ∧ MR w' B g (Mat.swap x c p) ∧ MR w' B h (Mat.swap y c p) ∧ Below B w w') := by
  have HX := Lib.hid hX
  have HY := Lib.hid hY
  have SX := Lib.hid hx
  have SY := Lib.hid hy
  clear hX hY hx hy
  go_enter Try.func47, Try.ntmps47
  go_wp2_with fail
  go_loop [7] (fun v6 => ∃ p : Nat, c ≤ p ∧ p ≤ n ∧ v6 = .int .i64 (p : Nat) ∧ Hid (Mat.pv x n c = Mat.pvf x c (n - p) p)) (fun v6 => (n - intOf v6).toNat)
  case atStart => exact ⟨c, by omega, by omega, rfl, Lib.hid rfl⟩
  case round =>
    obtain ⟨p, hcp, hp, rfl, hJ⟩ := hrel
    by_cases hlt : p < n
    · have hxl : x.length = n := SX.out.1
      have hlt' : (p : Int) < (n : Int) := by omega
      obtain ⟨ra, rc, c1, hb⟩ := HX.out.at (List.getElem?_eq_getElem (show p < x.length by omega))
      obtain ⟨z, hz⟩ : ∃ z, x[p][c]? = some z := ⟨x[p][c]'(by have := SX.out.2 x[p] (List.getElem_mem _); omega), List.getElem?_eq_getElem _⟩
      have hen : Mat.en x p c = z := by
        unfold Mat.en
        rw [Mat.getD_lt (by omega : p < x.length), List.getD_eq_getElem?_getD, hz]; rfl
      obtain ⟨b, o, rfl, c2⟩ := hb.at (j := c) (u := bv z) (by simp [hz])
      have hxp : x[p].length = n := SX.out.2 x[p] (List.getElem_mem _)
      rw [hxp] at c1
      have HEN := Lib.hid hen
      have HB := Lib.hid hb
      rw [hxp] at HB
      clear hb hz hen hxp
      by_cases h0 : z = 0
      · have h0' : ((z.toNat : Int) != 0) = false := by rw [h0]; rfl
        have H0 := Lib.hid h0
        clear h0
        go_wp2_with fail
        refine ⟨⟨p + 1, by omega, by omega, by go_num, Lib.hid ?_⟩, by simp [intOf]; omega⟩
        rw [hJ.out, show n - p = (n - (p + 1)) + 1 by omega]
        show (if Mat.en x p c = 0 then _ else _) = _
        rw [HEN.out, if_pos H0.out]
      · have h0' : ((z.toNat : Int) != 0) = true := by
          have : z.toNat ≠ 0 := fun h => h0 (UInt8.toNat_inj.1 h)
          simp; omega
        have hpv : Mat.pv x n c = some p := by
          rw [hJ.out, show n - p = (n - (p + 1)) + 1 by omega]
          show (if Mat.en x p c = 0 then _ else _) = _
          rw [HEN.out, if_neg h0]
        have HPV := Lib.hid hpv
        clear hpv
        have hyl : y.length = n := SY.out.1
        have u4 := HX.out.unfrozen p
        have v4 := HY.out.unfrozen p
        have kp : Bytes w (.slice (some ⟨b, o, none⟩) n rc) (x.getD p []) := by rw [Mat.getD_lt (by omega : p < x.length)]; exact HB.out
        have KP := Lib.hid kp
        clear kp
        by_cases hpc : p = c
        · subst hpc
          have HX1 := Lib.hid (HX.out.swap p p KP.out KP.out)
          have HY1 := Lib.hid ((HY.out.set_other HX.out (fun e => hgh e.symm) p (.slice (some ⟨b, o, none⟩) n rc)).set_other (HX.out.set KP.out p) (fun e => hgh e.symm) p (.slice (some ⟨b, o, none⟩) n rc)).drew
          have hB1 := Lib.hid (Below.drew (Below.set (Below.set (Below.refl B w) HX.out.base p (.slice (some ⟨b, o, none⟩) n rc)) HX.out.base p (.slice (some ⟨b, o, none⟩) n rc)))
          go_wp2_with fail
          go_region
          go_wp2_with fail
          generalize ((w.setCell ⟨g, p, none⟩ (.slice (some ⟨b, o, none⟩) n rc)).setCell ⟨g, p, none⟩ (.slice (some ⟨b, o, none⟩) n rc)).drew = w1 at HX1 HY1 hB1 ⊢
          clear c1 c2 u4 v4
          obtain ⟨ya, yc, d1, e1⟩ := HY1.out.at (List.getElem?_eq_getElem (show p < y.length by omega))
          rw [SY.out.2 y[p] (List.getElem_mem _)] at d1 e1
          have kp : Bytes w1 (.slice ya n yc) (y.getD p []) := by rw [Mat.getD_lt (by omega : p < y.length)]; exact e1
          have w4 := HY1.out.unfrozen p
          have HY2 := Lib.hid (HY1.out.swap p p kp kp)
          have HX2 := Lib.hid ((HX1.out.set_other HY1.out hgh p (.slice ya n yc)).set_other (HY1.out.set kp p) hgh p (.slice ya n yc)).drew
          have hB2 := Lib.hid (Below.drew (Below.set (Below.set hB1.out HY1.out.base p (.slice ya n yc)) HY1.out.base p (.slice ya n yc)))
          clear kp e1
          go_region
          go_wp2_with fail
          go_ret
          exact .inr ⟨p, HPV.out, rfl, HX2.out, HY2.out, hB2.out⟩
        · have hpc2 : c ≠ p := fun h => hpc h.symm
          obtain ⟨xa, xc, c3, b3⟩ := HX.out.at (List.getElem?_eq_getElem (show c < x.length by omega))
          rw [SX.out.2 x[c] (List.getElem_mem _)] at c3 b3
          have u3 := HX.out.unfrozen c
          have kc : Bytes w (.slice xa n xc) (x.getD c []) := by rw [Mat.getD_lt (by omega : c < x.length)]; exact b3
          have HX1 := Lib.hid (HX.out.swap c p kc KP.out)
          have HY1 := Lib.hid ((HY.out.set_other HX.out (fun e => hgh e.symm) c (.slice (some ⟨b, o, none⟩) n rc)).set_other (HX.out.set KP.out c) (fun e => hgh e.symm) p (.slice xa n xc)).drew
          have hB1 := Lib.hid (Below.drew (Below.set (Below.set (Below.refl B w) HX.out.base c (.slice (some ⟨b, o, none⟩) n rc)) HX.out.base p (.slice xa n xc)))
          clear kc b3
          go_wp2_with fail
          go_region
          go_wp2_with fail
          generalize ((w.setCell ⟨g, c, none⟩ (.slice (some ⟨b, o, none⟩) n rc)).setCell ⟨g, p, none⟩ (.slice xa n xc)).drew = w1 at HX1 HY1 hB1 ⊢
          clear c1 c2 c3 u3 u4 v4
          obtain ⟨ya, yc, d1, e1⟩ := HY1.out.at (List.getElem?_eq_getElem (show p < y.length by omega))
          rw [SY.out.2 y[p] (List.getElem_mem _)] at d1 e1
          have kp : Bytes w1 (.slice ya n yc) (y.getD p []) := by rw [Mat.getD_lt (by omega : p < y.length)]; exact e1
          obtain ⟨ya2, yc2, d2, e2⟩ := HY1.out.at (List.getElem?_eq_getElem (show c < y.length by omega))
          rw [SY.out.2 y[c] (List.getElem_mem _)] at d2 e2
          have kc : Bytes w1 (.slice ya2 n yc2) (y.getD c []) := by rw [Mat.getD_lt (by omega : c < y.length)]; exact e2
          have w3 := HY1.out.unfrozen c
          have w4 := HY1.out.unfrozen p
          have HY2 := Lib.hid (HY1.out.swap c p kc kp)
          have HX2 := Lib.hid ((HX1.out.set_other HY1.out hgh c (.slice ya n yc)).set_other (HY1.out.set kp c) hgh p (.slice ya2 n yc2)).drew
          have hB2 := Lib.hid (Below.drew (Below.set (Below.set hB1.out HY1.out.base c (.slice ya n yc)) HY1.out.base p (.slice ya2 n yc2)))
          clear kp kc e1 e2
          go_region
          go_wp2_with fail
          go_ret
          exact .inr ⟨p, HPV.out, rfl, HX2.out, HY2.out, hB2.out⟩
    · obtain rfl : p = n := by omega
      have hpv : Mat.pv x p c = none := by
        rw [hJ.out, Nat.sub_self]; rfl
      have HPV := Lib.hid hpv
      clear hlt hpv
      go_wp2_with fail
      go_ret
      exact .inl ⟨HPV.out, rfl, Below.refl _ _⟩
end Go.Proofs.Ytdmdcgcmappliaa
