/-
  RsAdds.
-/
import Derived.Test.YtdmdcgcmappliaaRsG
import Derived.Test.YtdmdcgcmappliaaMxS
import Derived.Deep.RegionHeld
namespace Go.Proofs.Ytdmdcgcmappliaa
open Go.RowKit Gf
set_option maxRecDepth 100000
set_option maxHeartbeats 4000000
attribute [local go_sem] min_int2 max_int2 bstr_toList

theorem mad_add : ∀ (d d' s s' : List UInt8) (c : UInt8), d.length = d'.length → s.length = s'.length → d.length = s.length → mad (mad d d' 1) (mad s s' 1) c = mad (mad d s c) (mad d' s' c) 1
  | [], [], [], [], _, _, _, _ => rfl
  | x :: d, y :: d', p :: s, q :: s', c, h1, h2, h3 => by
    show ((x ^^^ g8 y 1) ^^^ g8 (p ^^^ g8 q 1) c) :: _ = ((x ^^^ g8 p c) ^^^ g8 (y ^^^ g8 q c) 1) :: _
    rw [mad_add d d' s s' c (by simpa using h1) (by simpa using h2) (by simpa using h3), Mat.g8_one, Mat.g8_one, Mat.g8_one, Mat.g8_xor_left, Mat.xfour]
/-- The rows' sums. -/
def addM (A B : Mat.M) : Mat.M := (List.range A.length).map fun i => mad (A.getD i []) (B.getD i []) 1
theorem addM_sh {A B : Mat.M} {k n : Nat} (hA : Mat.Sh A k n) : Mat.Sh (addM A B) k n := by
  unfold addM
  rw [hA.1]
  exact Mat.Sh.of_map fun i hi => by rw [mad_length]; exact hA.row hi
theorem addM_row {A B : Mat.M} {i : Nat} (hi : i < A.length) : (addM A B).getD i [] = mad (A.getD i []) (B.getD i []) 1 := Mat.range_getD _ hi []
theorem mad_zero_one : ∀ n : Nat, mad (List.replicate n 0) (List.replicate n 0) 1 = List.replicate n 0
  | 0 => rfl
  | n + 1 => by
    rw [List.replicate_succ]
    show ((0 : UInt8) ^^^ g8 0 1) :: mad _ _ 1 = _
    rw [mad_zero_one n, Mat.g8_zero_left]
    rfl
theorem rowk_add (r : List UInt8) {A B : Mat.M} {k n : Nat} (hA : Mat.Sh A k n) (hB : Mat.Sh B k n) : ∀ j, j ≤ k → mad (Mat.rowk r A n j) (Mat.rowk r B n j) 1 = Mat.rowk r (addM A B) n j
  | 0, _ => mad_zero_one n
  | j + 1, hj => by
    show mad (mad (Mat.rowk r A n j) (A.getD j []) (r.getD j 0)) (mad (Mat.rowk r B n j) (B.getD j []) (r.getD j 0)) 1 = mad (Mat.rowk r (addM A B) n j) ((addM A B).getD j []) (r.getD j 0)
    rw [← rowk_add r hA hB j (by omega), addM_row (by rw [hA.1]; omega), mad_add _ _ _ _ _ (by rw [Mat.rowk_len, Mat.rowk_len]) (by rw [hA.row (by omega), hB.row (by omega)]) (by rw [Mat.rowk_len, hA.row (by omega)])]
theorem enc_add {X A B : Mat.M} {k nn n i : Nat} (hX : Mat.Sh X nn k) (hA : Mat.Sh A k n) (hB : Mat.Sh B k n) (hi : i < nn) :
    mad ((Mat.mmul X A n).getD i []) ((Mat.mmul X B n).getD i []) 1 = (Mat.mmul X (addM A B) n).getD i [] := by
  rw [Mat.mmul_row hX hi, Mat.mmul_row hX hi, Mat.mmul_row hX hi, hA.1, hB.1, (addM_sh hA).1, rowk_add _ hA hB k (Nat.le_refl _)]

theorem rsadds_any (w : World) (va : Value) (a : Mat.M) (ha : BRows w va a) (la : a.length ≤ 140737488351232) (ra : ∀ l ∈ a, l.length ≤ 140737488351232) (vb : Value) (b : Mat.M) (hb : BRows w vb b) (lb : b.length ≤ 140737488351232) (rb : ∀ l ∈ b, l.length ≤ 140737488351232) (x : UInt8) :
    Calls Try.prog 9 #[va, vb, bv x] w fun e w' => e = .returned (.bool true) ∧ Ext w w' := by
  obtain ⟨aa, ac, rfl⟩ := ha.form
  obtain ⟨ba, bc, rfl⟩ := hb.form
  have HA := Lib.hid ha
  have HB := Lib.hid hb
  have HL := Lib.hid (And.intro ra (And.intro la (And.intro rb lb)))
  clear ha hb la ra lb rb
  go_enter Try.func9, Try.ntmps9
  go_wp2_with fail
  refine (rsawake_any _).mono ?_; rintro e w1 ⟨rfl, x1⟩
  have HA1 := Lib.hid (HA.out.ext x1)
  have HB1 := Lib.hid (HB.out.ext x1)
  have X1 := Lib.hid x1
  clear x1 HA HB
  go_wp2_with fail
  refine (small3_any _ a HL.out.1 HL.out.2.1 _ HA1.out).mono ?_; rintro e w' ⟨d1, rfl, S1, rfl⟩
  cases d1
  case false =>
    go_wp2_with fail
    go_ret
    exact ⟨rfl, X1.out⟩
  have SA := Lib.hid (S1.out rfl)
  clear S1
  go_wp2_with fail
  refine (small3_any _ b HL.out.2.2.1 HL.out.2.2.2 _ HB1.out).mono ?_; rintro e w' ⟨d2, rfl, S2, rfl⟩
  cases d2
  case false =>
    go_wp2_with fail
    go_ret
    exact ⟨rfl, X1.out⟩
  have SB := Lib.hid (S2.out rfl)
  clear S2
  by_cases h0 : a.length = 0
  case pos =>
    have q0 : ((a.length : Int) == 0) = true := beq_iff_eq.2 (by omega)
    clear h0
    go_wp2_with fail
    go_ret
    exact ⟨rfl, X1.out⟩
  have q0 : ((a.length : Int) == 0) = false := beq_eq_false_iff_ne.2 (by omega)
  by_cases h30 : 30 < a.length
  case pos =>
    have q1 : (30 : Int) < (a.length : Int) := by omega
    clear h0 h30
    go_wp2_with fail
    go_ret
    exact ⟨rfl, X1.out⟩
  have q1 : (a.length : Int) ≤ 30 := by omega
  by_cases hab : b.length = a.length
  case neg =>
    have q2 : ((b.length : Int) != (a.length : Int)) = true := (bne_len _ _).trans (decide_eq_true hab)
    clear h0 h30 hab
    go_wp2_with fail
    go_ret
    exact ⟨rfl, X1.out⟩
  rw [hab] at HB1 ⊢
  have HAB := Lib.hid hab
  have q2 : ((a.length : Int) != (a.length : Int)) = false := by simp
  obtain ⟨k, hk⟩ : ∃ k, a.length = k := ⟨_, rfl⟩
  rw [hk] at HA1 HB1 q0 q1 q2 h0 h30 ⊢
  have HK := Lib.hid hk
  obtain ⟨m, hm⟩ : ∃ m : Nat, 1 + x.toNat % 10 = m := ⟨_, rfl⟩
  have f1 := Lib.hid (wrap_mod x 10 m (by omega) (by omega) hm)
  have m1 : 1 ≤ m := by omega
  have m2 : m ≤ 10 := by omega
  have k1 : 1 ≤ k := by omega
  have k2 : k ≤ 30 := by omega
  clear hab hk h0 h30 hm
  go_wp2_with fail
  rw [show Go.RowKit.wrap64 (1 + (Go.RowKit.wrap64 (x.toNat : Int)).tmod 10) = (m : Int) from f1.out]
  clear f1
  refine (rsnew_any k m k1 m1 (by omega) _).mono ?_; rintro e w2 ⟨cb, X, hX, rfl, hC, x2⟩
  have HX := Lib.hid (CodeMat.of_sys k1 m1 (by omega) hX)
  have HC := Lib.hid hC
  have HA2 := Lib.hid (HA1.out.ext x2)
  have HB2 := Lib.hid (HB1.out.ext x2)
  have X2 := Lib.hid (Ext.trans X1.out x2)
  clear x2 hC hX HA1 HB1
  go_wp2_with fail
  obtain ⟨n0, hn0⟩ : ∃ n0, (a.getD 0 []).length = n0 := ⟨_, rfl⟩
  have N0 := Lib.hid hn0
  have n0b : n0 ≤ 4000 := by
    rw [← hn0, Mat.getD_lt (by rw [HK.out]; exact k1) []]
    exact SA.out.2 _ (List.getElem_mem _)
  clear hn0
  go_loopw [9, 10] (fun v9 v10 wr => ∃ (i : Nat) (xa : Option Addr) (xc : Nat), i ≤ k ∧ v10 = .int .i64 (i : Nat) ∧ v9 = .slice xa i xc ∧ Hid (RowsOwn wr w2.heap.size (.slice xa i xc) ((addM a b).take i) ∧ Ext w2 wr ∧ (∀ j, j < i → (a.getD j []).length = n0) ∧ ∀ j, j < i → (b.getD j []).length = n0)) (fun _ v10 _ => (k - intOf v10).toNat)
  case atStart => exact ⟨0, _, _, by omega, rfl, rfl, Lib.hid ⟨by rw [List.take_zero]; exact RowsOwn.nil _ _, Ext.refl _, fun j h => by omega, fun j h => by omega⟩⟩
  case round =>
    obtain ⟨i, xa, xc, hi, rfl, rfl, hR⟩ := hrel
    by_cases hlt : i < k
    · have hlt' : (i : Int) < (k : Int) := by omega
      have hia : i < a.length := by rw [HK.out]; exact hlt
      have hib : i < b.length := by rw [HAB.out, HK.out]; exact hlt
      have h0a : 0 < a.length := by rw [HK.out]; exact k1
      obtain ⟨ab, ao, ra, rc, rfl, c1, hb1⟩ := (HA2.out.ext hR.out.2.1).at (List.getElem?_eq_getElem hia)
      obtain ⟨ra0, rc0, c0, -⟩ := (HA2.out.ext hR.out.2.1).rowAt (List.getElem?_eq_getElem h0a)
      obtain ⟨bb, bo, sa, sc, rfl, c2, hb2⟩ := (HB2.out.ext hR.out.2.1).at (List.getElem?_eq_getElem hib)
      rw [Nat.add_zero, ← Mat.getD_lt h0a [], N0.out] at c0
      obtain ⟨rowa, hra⟩ : ∃ r, a[i] = r := ⟨_, rfl⟩
      obtain ⟨rowb, hrb⟩ : ∃ r, b[i] = r := ⟨_, rfl⟩
      rw [hra] at c1 hb1
      rw [hrb] at c2 hb2
      have RA := Lib.hid (show a.getD i [] = rowa from by rw [Mat.getD_lt hia [], hra])
      have RB := Lib.hid (show b.getD i [] = rowb from by rw [Mat.getD_lt hib [], hrb])
      have HR1 := Lib.hid hb1
      have HR2 := Lib.hid hb2
      obtain ⟨p, hp⟩ : ∃ p, rowa.length = p := ⟨_, rfl⟩
      obtain ⟨q, hq⟩ : ∃ q, rowb.length = q := ⟨_, rfl⟩
      rw [hp] at c1 HR1
      rw [hq] at c2 HR2
      have HP := Lib.hid hp
      have HQ := Lib.hid hq
      have XX := Lib.hid (Ext.trans X2.out hR.out.2.1)
      clear hb1 hb2 hra hrb hp hq hia hib h0a
      by_cases e1 : p = n0
      case neg =>
        have q3 : ((p : Int) != (n0 : Int)) = true := (bne_len _ _).trans (decide_eq_true e1)
        clear e1
        go_wp2_with fail
        go_quiet (fail)
        have x8 := Lib.hid (Ext.trans XX.out (Ext.of_drawn wr nq))
        generalize wr.drewN nq = wt at x8 ⊢
        go_wp2_with fail
        go_ret
        exact ⟨rfl, x8.out⟩
      by_cases e2 : q = n0
      case neg =>
        have q3 : ((p : Int) != (n0 : Int)) = false := (bne_len _ _).trans (decide_eq_false (fun h => h e1))
        have q4 : ((q : Int) != (n0 : Int)) = true := (bne_len _ _).trans (decide_eq_true e2)
        clear e1 e2
        go_wp2_with fail
        go_quiet (fail)
        have x8 := Lib.hid (Ext.trans XX.out (Ext.of_drawn wr nq))
        generalize wr.drewN nq = wt at x8 ⊢
        go_wp2_with fail
        go_ret
        exact ⟨rfl, x8.out⟩
      rw [e1] at c1 HR1 HP
      rw [e2] at c2 HR2 HQ
      have q3 : ((n0 : Int) != (n0 : Int)) = false := by simp
      clear e1 e2
      go_wp2_with fail
      go_quiet (fail)
      have HN0 := Lib.hid (hR.out.1.ext (Ext.of_drawn wr nq))
      have HE0 := Lib.hid (Ext.trans hR.out.2.1 (Ext.of_drawn wr nq))
      have HR3 := Lib.hid (HR1.out.ext (Ext.of_drawn wr nq))
      have HR4 := Lib.hid (HR2.out.ext (Ext.of_drawn wr nq))
      have c1 := Ext.cell (Ext.of_drawn wr nq) c1
      have c2 := Ext.cell (Ext.of_drawn wr nq) c2
      clear c0 HR1 HR2
      generalize wr.drewN nq = w4 at HN0 HE0 HR3 HR4 c1 c2 ⊢
      go_wp2_with fail
      have hPP : (addM a b).take i ++ [mad rowa rowb 1] = (addM a b).take (i + 1) := by
        have hal : i < (addM a b).length := by unfold addM; simp; rw [HK.out]; exact hlt
        rw [List.take_add_one, List.getElem?_eq_getElem hal, ← Mat.getD_lt hal [], addM_row (by rw [HK.out]; exact hlt), RA.out, RB.out]
        rfl
      have HPP := Lib.hid hPP
      have HLn : Hid (((addM a b).take i).length ≤ 70000) := Lib.hid (by simp; omega)
      have mc : ∀ w', Ext w4 w' → Calls Try.prog 34 #[.slice ra n0 rc, .slice sa n0 sc, .int .u8 1] w' fun e w5 => ∃ ua uc, e = .returned (.slice ua n0 uc) ∧ Hid (RowsOwn w5 w2.heap.size (.slice xa i xc) ((addM a b).take i) ∧ Bytes w5 (.slice ua n0 uc) (mad rowa rowb 1) ∧ OffB (Value.slice xa i xc).ownBlock (.slice ua n0 uc) (mad rowa rowb 1) ∧ Ext w2 w5) := by
        intro w' e
        refine (rmuladd_any rowa rowb 1 _ _ _ (by rw [HP.out]; omega) (by rw [HQ.out]; omega) (HR3.out.ext e) (HR4.out.ext e)).mono ?_
        rintro e' w5 ⟨u, rfl, hU, x5⟩
        obtain ⟨ua, uc, rfl⟩ := Bytes.slice hU.cells
        have hul : (mad rowa rowb 1).length = n0 := by rw [mad_length, HP.out]
        rw [hul] at hU ⊢
        exact ⟨ua, uc, rfl, Lib.hid ⟨HN0.out.ext (Ext.trans e x5), hU.cells, OffB.fresh hU (fun q hq => Nat.lt_of_lt_of_le (HN0.out.block q hq) e.size), Ext.trans HE0.out (Ext.trans e x5)⟩⟩
      have MC := Lib.hid mc
      clear mc hPP
      go_region_law (first
        | (refine step_of_wp rfl (wp_row1 _ _ 22 rfl Try.underlying22 rfl rfl rfl hst.out.1 hst.out.2.1 hst.out.2.2.1 hst.out.2.2.2.size HLn.out ?_); intro ad c w7 hN hB7)
        | (refine step_of_wp rfl ?_; go_simp; refine (MC.out _ (Ext.of_drawn _ 1)).mono ?_; rintro e w5 ⟨ua, uc, rfl, hst⟩))
      all_goals
        rw [HPP.out] at hN
        have HNN := Lib.hid (And.intro hN (And.intro (Below.trans hst.out.2.2.2 hB7) (And.intro (show ∀ j, j < i + 1 → (a.getD j []).length = n0 from fun j hj => by
          by_cases e : j = i
          · subst e; rw [RA.out, HP.out]
          · exact hR.out.2.2.1 j (by omega)) (show ∀ j, j < i + 1 → (b.getD j []).length = n0 from fun j hj => by
          by_cases e : j = i
          · subst e; rw [RB.out, HQ.out]
          · exact hR.out.2.2.2 j (by omega)))))
        clear hN hB7 c1 c2
        go_wp2_with fail
        exact ⟨⟨i + 1, _, _, by omega, by go_num, rfl, HNN⟩, by simp [intOf]; omega⟩
    · obtain rfl : i = k := by omega
      have sa : Mat.Sh a i n0 := ⟨HK.out, fun r hr => by
        obtain ⟨j, hj⟩ := List.getElem?_of_mem hr
        have hj2 := (List.getElem?_eq_some_iff.1 hj).1
        have h3 := hR.out.2.2.1 j (by rw [← HK.out]; exact hj2)
        rw [Mat.getD_lt hj2 [], (List.getElem?_eq_some_iff.1 hj).2] at h3
        exact h3⟩
      have sb : Mat.Sh b i n0 := ⟨by rw [HAB.out, HK.out], fun r hr => by
        obtain ⟨j, hj⟩ := List.getElem?_of_mem hr
        have hj2 := (List.getElem?_eq_some_iff.1 hj).1
        have h3 := hR.out.2.2.2 j (by rw [← HK.out, ← HAB.out]; exact hj2)
        rw [Mat.getD_lt hj2 [], (List.getElem?_eq_some_iff.1 hj).2] at h3
        exact h3⟩
      have SAh := Lib.hid sa
      have SBh := Lib.hid sb
      have hN := hR.out.1.brows
      rw [show (addM a b).take i = addM a b from List.take_of_length_le (by rw [(addM_sh sa).1]; exact Nat.le_refl _)] at hN
      have HS3 := Lib.hid hN
      have HA3 := Lib.hid (HA2.out.ext hR.out.2.1)
      have HB3 := Lib.hid (HB2.out.ext hR.out.2.1)
      have HC3 := Lib.hid (HC.out.ext hR.out.2.1)
      have X3 := Lib.hid (Ext.trans X2.out hR.out.2.1)
      clear sa sb hN hR hlt hi
      go_wp2_with fail
      refine (enc_any cb i (i + m) X _ a n0 (by omega) HX.out SAh.out _ HC3.out HA3.out).mono ?_; rintro e w4 ⟨ea, rfl, hEA, x4⟩
      have EA := Lib.hid hEA.brows
      have HB4 := Lib.hid (HB3.out.ext x4)
      have HS4 := Lib.hid (HS3.out.ext x4)
      have HC4 := Lib.hid (HC3.out.ext x4)
      have X4 := Lib.hid (Ext.trans X3.out x4)
      clear hEA x4 HA3 HB3 HS3 HC3
      go_wp2_with fail
      refine (enc_any cb i (i + m) X _ b n0 (by omega) HX.out SBh.out _ HC4.out HB4.out).mono ?_; rintro e w5 ⟨eb, rfl, hEB, x5⟩
      have EA5 := Lib.hid (EA.out.ext x5)
      have EB := Lib.hid hEB.brows
      have HS5 := Lib.hid (HS4.out.ext x5)
      have HC5 := Lib.hid (HC4.out.ext x5)
      have X5 := Lib.hid (Ext.trans X4.out x5)
      clear hEB x5 HB4 HS4 HC4 EA
      go_wp2_with fail
      refine (enc_any cb i (i + m) X _ (addM a b) n0 (by omega) HX.out (addM_sh SAh.out) _ HC5.out HS5.out).mono ?_; rintro e w6 ⟨es, rfl, hES, x6⟩
      have EA6 := EA5.out.ext x6
      have EB6 := EB.out.ext x6
      have ES6 := hES.brows
      have HC6 := Lib.hid (HC5.out.ext x6)
      have X6 := Lib.hid (Ext.trans X5.out x6)
      obtain ⟨nn, hnn⟩ : ∃ nn, i + m = nn := ⟨_, rfl⟩
      rw [hnn] at HX HC6
      have l1 : (Mat.mmul X a n0).length = nn := (Mat.mmul_sh (b := a) (m := n0) HX.out.sh).1
      have l2 : (Mat.mmul X b n0).length = nn := (Mat.mmul_sh (b := b) (m := n0) HX.out.sh).1
      have l3 : (Mat.mmul X (addM a b) n0).length = nn := (Mat.mmul_sh (b := addM a b) (m := n0) HX.out.sh).1
      obtain ⟨xa', xc', rfl⟩ := EA6.form
      obtain ⟨ya', yc', rfl⟩ := EB6.form
      obtain ⟨za', zc', rfl⟩ := ES6.form
      rw [l1] at EA6 ⊢
      rw [l2] at EB6 ⊢
      rw [l3] at ES6 ⊢
      have FA := Lib.hid EA6
      have FB := Lib.hid EB6
      have FS := Lib.hid ES6
      have NN := Lib.hid hnn
      have n2 : nn ≤ 255 := HX.out.n255
      have q9 : ((nn : Int) != (nn : Int)) = false := by simp
      have FE := Lib.hid (fun j (hj : j < nn) => enc_add HX.out.sh SAh.out SBh.out hj)
      clear hES x6 EA6 EB6 ES6 l1 l2 l3 hnn HS5 HC5 EA5 EB
      go_wp2_with fail
      refine (rsN_any cb i nn X _ HC6.out).mono ?_; rintro e w' ⟨rfl, rfl⟩
      go_wp2_with fail
      go_loopw [17] (fun v17 wr => ∃ j : Nat, j ≤ nn ∧ v17 = .int .i64 (j : Nat) ∧ Ext w6 wr) (fun v17 _ => (nn - intOf v17).toNat)
      case atStart => exact ⟨0, by omega, rfl, Ext.refl _⟩
      case round =>
        obtain ⟨j, hj, rfl, hE⟩ := hrel
        have XX := Lib.hid (Ext.trans X6.out hE)
        by_cases hlt : j < nn
        · have hlt' : (j : Int) < (nn : Int) := by omega
          have r1 := (Mat.mmul_sh (b := a) (m := n0) HX.out.sh).get hlt
          have r2 := (Mat.mmul_sh (b := b) (m := n0) HX.out.sh).get hlt
          have r3 := (Mat.mmul_sh (b := addM a b) (m := n0) HX.out.sh).get hlt
          have h3 := FE.out j hlt
          obtain ⟨rx, hrx⟩ : ∃ r, (Mat.mmul X a n0).getD j [] = r := ⟨_, rfl⟩
          obtain ⟨ry, hry⟩ : ∃ r, (Mat.mmul X b n0).getD j [] = r := ⟨_, rfl⟩
          obtain ⟨rz, hrz⟩ : ∃ r, (Mat.mmul X (addM a b) n0).getD j [] = r := ⟨_, rfl⟩
          rw [hrx] at r1 h3
          rw [hry] at r2 h3
          rw [hrz] at r3 h3
          obtain ⟨xb, xo, pa, pc, rfl, c1, b1⟩ := (FA.out.ext hE).at r1.1
          obtain ⟨yb, yo, qa, qc, rfl, c2, b2⟩ := (FB.out.ext hE).at r2.1
          obtain ⟨zb, zo, ta, tc, rfl, c3, b3⟩ := (FS.out.ext hE).at r3.1
          rw [r1.2] at c1 b1
          rw [r2.2] at c2 b2
          rw [r3.2] at c3 b3
          have B := Lib.hid (And.intro b1 (And.intro b2 (And.intro b3 (And.intro h3 (And.intro r1.2 r2.2)))))
          have CE := Lib.hid (And.intro c1 (And.intro c2 c3))
          have hSS : ∀ w', Ext wr w' → (fun w' : World => w'.cell? ⟨xb, xo + j, none⟩ = some (.slice pa n0 pc) ∧ w'.cell? ⟨yb, yo + j, none⟩ = some (.slice qa n0 qc) ∧ w'.cell? ⟨zb, zo + j, none⟩ = some (.slice ta n0 tc) ∧ (convert 34 9 (.slice ta n0 tc)).run Try.prog w' = .ok (.string (bstr rz)) w') w' := fun w' e => ⟨Ext.cell e CE.out.1, Ext.cell e CE.out.2.1, Ext.cell e CE.out.2.2, str_conv (B.out.2.2.1) w' e⟩
          have mc : ∀ w', Ext wr w' → Calls Try.prog 34 #[.slice pa n0 pc, .slice qa n0 qc, .int .u8 1] w' fun e w5 => ∃ ua uc, e = .returned (.slice ua n0 uc) ∧ (convert 34 9 (.slice ua n0 uc)).run Try.prog w5 = .ok (.string (bstr rz)) w5 ∧ (fun w' : World => w'.cell? ⟨xb, xo + j, none⟩ = some (.slice pa n0 pc) ∧ w'.cell? ⟨yb, yo + j, none⟩ = some (.slice qa n0 qc) ∧ w'.cell? ⟨zb, zo + j, none⟩ = some (.slice ta n0 tc) ∧ (convert 34 9 (.slice ta n0 tc)).run Try.prog w' = .ok (.string (bstr rz)) w') w5 ∧ Hid (Ext wr w5) := by
            intro w' e
            refine (rmuladd_any rx ry 1 _ _ _ (by rw [B.out.2.2.2.2.1]; omega) (by rw [B.out.2.2.2.2.2]; omega) (B.out.1.ext e) (B.out.2.1.ext e)).mono ?_
            rintro e' w5 ⟨u, rfl, hU, x5⟩
            obtain ⟨ua, uc, rfl⟩ := Bytes.slice hU.cells
            have hul : (mad rx ry 1).length = n0 := by rw [mad_length, B.out.2.2.2.2.1]
            rw [hul] at hU ⊢
            have hU2 := hU.cells
            rw [B.out.2.2.2.1] at hU2
            exact ⟨ua, uc, rfl, str_conv hU2 w5 (Ext.refl _), hSS w5 (Ext.trans e x5), Lib.hid (Ext.trans e x5)⟩
          have MC := Lib.hid mc
          clear mc b1 b2 b3 h3 r1 r2 r3 hrx hry hrz c1 c2 c3
          go_wp2_with fail
          have S0 := hSS wr.drew (Ext.of_drawn _ 1)
          go_region_held (fun w' : World => w'.cell? ⟨xb, xo + j, none⟩ = some (.slice pa n0 pc) ∧ w'.cell? ⟨yb, yo + j, none⟩ = some (.slice qa n0 qc) ∧ w'.cell? ⟨zb, zo + j, none⟩ = some (.slice ta n0 tc) ∧ (convert 34 9 (.slice ta n0 tc)).run Try.prog w' = .ok (.string (bstr rz)) w') (first | assumption | (exact hSS _ (Ext.of_drawn _ 1))) (first | (go_at_call 34; refine (MC.out _ (Ext.of_drawn _ 1)).mono ?_; rintro e w5 ⟨ua, uc, rfl, y5, S5, hst⟩))
          all_goals
            clear S0 hSS MC y5 S5
            go_wp2_with fail
            exact ⟨⟨j + 1, by omega, by go_num, Ext.trans hE hst.out⟩, by simp [intOf]; omega⟩
        · obtain rfl : j = nn := by omega
          clear hlt
          go_wp2_with fail
          go_ret
          exact ⟨rfl, XX.out⟩
end Go.Proofs.Ytdmdcgcmappliaa
