/-
  ArrayVoices: the walk.
-/
import Derived.Test.YthkbbcdnmdjhdaaArK
import Derived.Test.YthkbbcdnmdjhdaaArH
import Derived.Test.YthkbbcdnmdjhdaaArNp
/-! XArN: ArrayVoices: the walk. -/
namespace Go.Proofs.Ythkbbcdnmdjhdaa
open Go.RowKit Dk
set_option maxRecDepth 100000
set_option maxHeartbeats 40000000
attribute [local go_sem] min_int2 max_int2 bstr_toList

theorem memP_inX {P : PA} {s t : AS} {X Y : Thing} : (X.star (memP P s t Y)).Ent (memA P.A (some P.f) s (X.star (restP P t Y))) := (Thing.Ent.star (.refl _) memP_in).trans memA_in
theorem memP_outX {P : PA} {s t : AS} {X Y : Thing} : (memA P.A (some P.f) s (X.star (restP P t Y))).Ent (X.star (memP P s t Y)) := memA_out.trans (.star (.refl _) memP_out)
theorem kd_in {l : List UInt8} {i : Nat} (h : i < l.length) : kd l i = (l.getD i 0).toNat % 5 := by unfold kd; rw [if_pos h]
theorem kd_out {l : List UInt8} {i : Nat} (h : ¬ i < l.length) : kd l i = 0 := by unfold kd; rw [if_neg h]

theorem voices_law (w : World) (sk : Int) (_bk : -9223372036854775808 ≤ sk ∧ sk ≤ 9223372036854775807) (sm : Int) (_bm : -9223372036854775808 ≤ sm ∧ sm ≤ 9223372036854775807) (sb : Int) (_bb : -9223372036854775808 ≤ sb ∧ sb ≤ 9223372036854775807) (v : Value) (l : List UInt8) (hv : Bytes w v l) (hl : l.length ≤ maxLen) :
    Calls Try.prog 5 #[.agg #[.int .i64 sk, .int .i64 sm, .int .i64 sb], v] w fun e w' => e = .returned (.bool true) ∧ Ext w w' := by
  obtain ⟨va, vc, rfl⟩ := hv.slice
  have HV := Lib.hid hv
  unfold maxLen at hl
  have hL1 := (Lab.start w).newrow 23 #[.int .i64 sk, .int .i64 sm, .int .i64 sb]
  obtain ⟨sbx, hsb⟩ : ∃ b, w.heap.size = b := ⟨_, rfl⟩
  rw [hsb] at hL1
  clear hv
  go_enter Try.func5, Try.ntmps5
  go_wp2_with fail
  refine (aawake_any _).mono ?_; rintro e w2 ⟨rfl, x2⟩
  have L2 := Lib.hid (hL1.ext x2)
  have c0 := (rowT.row L2.out.left).cell (i := 0) (v := .int .i64 sk) rfl
  have c1 := (rowT.row L2.out.left).cell (i := 1) (v := .int .i64 sm) rfl
  have c2 := (rowT.row L2.out.left).cell (i := 2) (v := .int .i64 sb) rfl
  clear hL1 x2 hsb
  go_wp2_with fail
  by_cases hr : 1 ≤ sk ∧ sk ≤ 12 ∧ 1 ≤ sm ∧ sm ≤ 12
  case neg =>
    have HR := Lib.hid hr
    clear hr
    refine (make_bad sk sm sb 1000 HR.out _).mono ?_; rintro e w3 ⟨rfl, x3⟩
    have X3 := Lib.hid (Ext.trans L2.out.toExt x3)
    clear x3
    go_wp2_with fail
    go_ret
    exact ⟨rfl, X3.out⟩
  refine (make_any sk sm sb 1000 hr w _ _ L2.out).mono ?_
  rintro e w3 (⟨-, rfl, x3⟩ | ⟨P, K, M, B, hm, rfl, hL⟩)
  · go_wp2_with fail
    go_ret
    exact ⟨rfl, x3⟩
  by_cases h40 : 40 < l.length
  · have h40' : (40 : Int) < (l.length : Int) := by omega
    have X3 := Lib.hid hL.toExt
    clear hL hm h40 c0 c1 c2 hr
    go_wp2_with fail
    go_ret
    exact ⟨rfl, X3.out⟩
  have h40' : (l.length : Int) ≤ 40 := by omega
  obtain ⟨n, hn⟩ : ∃ n, K + M = n := ⟨_, rfl⟩
  obtain ⟨YY, hYY⟩ : ∃ YY, (rowT sbx 23 #[.int .i64 sk, .int .i64 sm, .int .i64 sb]).star blankT = YY := ⟨_, rfl⟩
  have hn24 : n ≤ 24 ∧ 2 ≤ n := by have := hm.k1; have := hm.k2; have := hm.m1; have := hm.m2; omega
  have e0 : blanks (K + M) 1000 = lv n 0 (DV K M l 0) := by
    rw [hn]
    exact (blanks_lv n _).trans (congrArg (lv n 0) (funext fun j => (if_neg (by omega)).symm))
  have HOK := Lib.hid (show ∀ m D, P.A.Ok (lv n m D) from fun m D => hm.ok (by rw [lv_len, hn]))
  have HN := Lib.hid (show P.A.ss.length = n from hm.an.trans hn)
  have HK := Lib.hid (And.intro hm.aK hm.aM)
  obtain ⟨t0, ht0⟩ : ∃ t0, blanks (K + M) 1000 = t0 := ⟨_, rfl⟩
  have hL2 : Lab w w3 (memP P (blanks (K + M) 1000) (blanks (K + M) 1000) YY) := hYY ▸ hL
  rw [show memP P (blanks (K + M) 1000) (blanks (K + M) 1000) YY = memP P (lv n 0 (DV K M l 0)) t0 YY from by rw [← ht0, ← e0]] at hL2
  have L3 := Lib.hid (ownT.nil 3 hL2)
  have HX0 := Lib.hid (show ∀ W, Lab w W blankT → Bytes W (.slice va l.length vc) l from fun W h => HV.out.ext h.toExt)
  clear hL hm hr e0 c0 c1 c2 hL2 hYY ht0 hn h40
  go_wp2_with fail
  go_loopw [6, 7] (fun v6 v7 wr => ∃ (i m : Nat) (wa : Option Addr) (wc : Nat), i ≤ n ∧ v7 = .int .i64 (i : Nat) ∧ v6 = .slice wa (wants l i).length wc ∧ Hid (m ≤ 4 * i) ∧ Hid (Lab w wr ((ownT 3 (.slice wa (wants l i).length wc) (ivs ((wants l i).map Int.ofNat))).star (memP P (lv n m (DV K M l i)) t0 YY)))) (fun _ v7 _ => (n - intOf v7).toNat)
  case atStart => exact ⟨0, 0, none, 0, by omega, rfl, rfl, Lib.hid (Nat.zero_le _), L3⟩
  case round =>
    obtain ⟨i, m, wa, wc, hi, rfl, rfl, HM, LI⟩ := hrel
    have p0 := (memP.cells LI.out.right).1
    go_wp2_with fail
    refine (aN_any P.A w _ (memP.arr LI.out.right)).mono ?_; rintro e w4 ⟨rfl, rfl⟩
    rw [HN.out]
    by_cases hlt : i < n
    · have hlt' : (i : Int) < (n : Int) := by omega
      have E1 := Lib.hid (DV_save (n := n) K M m l hlt)
      have hm9 : m < 1000 := by have := HM.out; omega
      go_wp2_with fail
      refine (aformat_any P.A (some P.f) _ _ m i w _ (LI.out.ent memP_inX) (HOK.out _ _) (lv_snd m (by omega) fun j _ => DV_snd K M l i j) (by omega) (by rw [HN.out]; exact hlt)).mono ?_
      rintro e w5 ⟨rfl, hL⟩
      rw [HK.out.1, HK.out.2, E1.out] at hL ⊢
      have L5 := Lib.hid (hL.ent memP_outX)
      clear hL p0
      obtain ⟨si, hsi⟩ : ∃ si, P.A.ss[i]? = some si := ⟨_, List.getElem?_eq_getElem (by rw [HN.out]; exact hlt)⟩
      obtain ⟨k, hk⟩ : ∃ k, kd l i = k := ⟨_, rfl⟩
      have HSI := Lib.hid hsi
      have HKD := Lib.hid hk
      have p1 : w5.cell? ⟨P.pb, 1, none⟩ = some (.slice (some ⟨P.db, 0, none⟩) n P.dc) := HN.out ▸ (memP.cells L5.out.right).2.1
      have p2 := memP.sim L5.out.right HSI.out
      clear hsi hk
      have hc : k < 5 := by rw [← HKD.out]; exact kd_lt l i
      by_cases hj : i < l.length
      · have hj' : (i : Int) < (l.length : Int) := by omega
        obtain ⟨rb, ro, rfl, c1⟩ := (HV.out.ext L5.out.toExt).at (show (bvs l)[i]? = some (bv (l.getD i 0)) by rw [bvs_get hj, List.getD_eq_getElem?_getD, List.getElem?_eq_getElem hj]; rfl)
        obtain ⟨x, hx⟩ : ∃ x, l.getD i 0 = x := ⟨_, rfl⟩
        have hxk : (x.toNat : Int) % 5 = (k : Nat) := by rw [← HKD.out, kd_in hj, hx]; rfl
        rw [hx] at c1
        clear hx
        have hk5 : k = 0 ∨ k = 1 ∨ k = 2 ∨ k = 3 ∨ k = 4 := by omega
        rcases hk5 with rfl | rfl | rfl | rfl | rfl
        · have W1 := Lib.hid (show wants l (i + 1) = wants l i ++ [i] by rw [wants_succ, if_pos HKD.out])
          have HE := Lib.hid (show ivs ((wants l i).map Int.ofNat) ++ [.int .i64 (i : Int)] = ivs ((wants l i ++ [i]).map Int.ofNat) by simp)
          have HLE := Lib.hid (show (ivs ((wants l i).map Int.ofNat)).length ≤ 100000 by have := wants_len l i; simp; omega)
          have L6 := Lib.hid (show Lab w w5 ((ownT 3 (.slice wa (wants l i).length wc) (ivs ((wants l i).map Int.ofNat))).star (memP P (lv n (m + 3) (DV K M l (i + 1))) t0 YY)) by rw [← DV_same K M l HKD.out]; exact L5.out)
          clear p1 p2
          go_wp2_with (at_builtin; refine list_of_wp rfl fun KK hKK => wp_lapp1 _ _ 52 3 (.int .i64 0) 8 rfl Try.underlying52 info_int rfl (by decide) rfl rfl rfl (by simp) L6.out rfl HLE.out fun ad c w7 hL => hKK _ _ ?_)
          rw [HE.out] at hL
          have HL7 := Lib.hid hL
          clear hL
          go_wp2_with fail
          exact ⟨⟨i + 1, m + 3, ad, c, by omega, by go_num, by rw [W1.out, List.length_append]; rfl, Lib.hid (by have := HM.out; omega), Lib.hid (by rw [W1.out, List.length_append]; exact HL7.out)⟩, by simp [intOf]; omega⟩
        · have W1 := Lib.hid (show wants l (i + 1) = wants l i by rw [wants_succ, if_neg (by rw [HKD.out]; decide)])
          go_wp2_with fail
          refine (Lab.aoffline (L5.out.ent memP_inX) (HOK.out _ _) HSI.out true).mono ?_; rintro e w6 ⟨rfl, hL⟩
          rw [DV_on K M (m + 3) 1 l hlt (fun d => { d with off := true }) HKD.out rfl] at hL
          have L6 := Lib.hid (hL.ent memP_outX)
          clear hL p1 p2
          go_wp2_with fail
          exact ⟨⟨i + 1, m + 3, wa, wc, by omega, by go_num, by rw [W1.out], Lib.hid (by have := HM.out; omega), Lib.hid (by rw [W1.out]; exact L6.out)⟩, by simp [intOf]; omega⟩
        · have W1 := Lib.hid (show wants l (i + 1) = wants l i by rw [wants_succ, if_neg (by rw [HKD.out]; decide)])
          go_wp2_with fail
          refine (Lab.awipe (L5.out.ent memP_inX) (HOK.out _ _) HSI.out).mono ?_; rintro e w6 ⟨rfl, hL⟩
          rw [DV_on K M (m + 3) 2 l hlt (fun d => { d with fs := [] }) HKD.out rfl] at hL
          have L6 := Lib.hid (hL.ent memP_outX)
          clear hL p1 p2
          go_wp2_with fail
          exact ⟨⟨i + 1, m + 3, wa, wc, by omega, by go_num, by rw [W1.out], Lib.hid (by have := HM.out; omega), Lib.hid (by rw [W1.out]; exact L6.out)⟩, by simp [intOf]; omega⟩
        · have W1 := Lib.hid (show wants l (i + 1) = wants l i by rw [wants_succ, if_neg (by rw [HKD.out]; decide)])
          go_wp2_with fail
          refine (Lab.afail (L5.out.ent memP_inX) (HOK.out _ _) HSI.out 1 (by decide)).mono ?_; rintro e w6 ⟨rfl, hL⟩
          rw [DV_on K M (m + 3) 3 l hlt (fun d => { d with bad := (1 : Int).toNat }) HKD.out rfl] at hL
          have L6 := Lib.hid (hL.ent memP_outX)
          clear hL p1 p2
          go_wp2_with fail
          exact ⟨⟨i + 1, m + 3, wa, wc, by omega, by go_num, by rw [W1.out], Lib.hid (by have := HM.out; omega), Lib.hid (by rw [W1.out]; exact L6.out)⟩, by simp [intOf]; omega⟩
        · have W1 := Lib.hid (show wants l (i + 1) = wants l i by rw [wants_succ, if_neg (by rw [HKD.out]; decide)])
          have cv : (convert 51 51 (.slice (some ⟨w5.heap.size, 0, none⟩) 4 4)).run Try.prog (w5.alloc (.cells #[.int .u8 83, .int .u8 66, .int .u8 70, .int .u8 49] 5)) = .ok (.slice (some ⟨w5.heap.size, 0, none⟩) 4 4) (w5.alloc (.cells #[.int .u8 83, .int .u8 66, .int .u8 70, .int .u8 49] 5 (4, 5))) := Lib.run_convert_bytes_const w5 _ _ _ 4 4 Try.underlying51 Try.underlying5
          have hx6 : Ext w5 (w5.alloc (.cells #[.int .u8 83, .int .u8 66, .int .u8 70, .int .u8 49] 5 (4, 5))) := (Ext.refl w5).alloc (Nat.le_refl _) _
          have L6 := Lib.hid (L5.out.ext hx6)
          have HB := Lib.hid (show Bytes (w5.alloc (.cells #[.int .u8 83, .int .u8 66, .int .u8 70, .int .u8 49] 5 (4, 5))) (.slice (some ⟨w5.heap.size, 0, none⟩) 4 4) sbf1 from cells_block (e := 5) (fz := (4, 5)) (C := #[.int .u8 83, .int .u8 66, .int .u8 70, .int .u8 49]) (by show (w5.heap.push _)[w5.heap.size]? = _; rw [Array.getElem?_push, if_pos rfl]) rfl rfl)
          clear hx6
          go_wp2_with fail
          refine (Lab.awrite (L6.out.ent memP_inX) (HOK.out _ _) (lv_snd (m + 3) (by omega) (upd_snd (fun j _ => DV_snd K M l i j) (fmt_snd ..))) (by omega) HSI.out fmtP _ sbf1 (by decide) HB.out (by decide)).mono ?_; rintro e w7 ⟨rfl, hL⟩
          rw [DV_write K M (m + 3) l hlt HKD.out] at hL ⊢
          have L7 := Lib.hid (hL.ent memP_outX)
          clear hL p1 p2 L6 HB
          go_wp2_with fail
          exact ⟨⟨i + 1, m + 3 + 1, wa, wc, by omega, by go_num, by rw [W1.out], Lib.hid (by have := HM.out; omega), Lib.hid (by rw [W1.out]; exact L7.out)⟩, by simp [intOf]; omega⟩
      · have hj' : (l.length : Int) ≤ (i : Int) := by omega
        obtain rfl : k = 0 := by rw [← HKD.out]; exact kd_out hj
        clear hj
        have W1 := Lib.hid (show wants l (i + 1) = wants l i ++ [i] by rw [wants_succ, if_pos HKD.out])
        have HE := Lib.hid (show ivs ((wants l i).map Int.ofNat) ++ [.int .i64 (i : Int)] = ivs ((wants l i ++ [i]).map Int.ofNat) by simp)
        have HLE := Lib.hid (show (ivs ((wants l i).map Int.ofNat)).length ≤ 100000 by have := wants_len l i; simp; omega)
        have L6 := Lib.hid (show Lab w w5 ((ownT 3 (.slice wa (wants l i).length wc) (ivs ((wants l i).map Int.ofNat))).star (memP P (lv n (m + 3) (DV K M l (i + 1))) t0 YY)) by rw [← DV_same K M l HKD.out]; exact L5.out)
        clear p1 p2
        go_wp2_with (at_builtin; refine list_of_wp rfl fun KK hKK => wp_lapp1 _ _ 52 3 (.int .i64 0) 8 rfl Try.underlying52 info_int rfl (by decide) rfl rfl rfl (by simp) L6.out rfl HLE.out fun ad c w7 hL => hKK _ _ ?_)
        rw [HE.out] at hL
        have HL7 := Lib.hid hL
        clear hL
        go_wp2_with fail
        exact ⟨⟨i + 1, m + 3, ad, c, by omega, by go_num, by rw [W1.out, List.length_append]; rfl, Lib.hid (by have := HM.out; omega), Lib.hid (by rw [W1.out, List.length_append]; exact HL7.out)⟩, by simp [intOf]; omega⟩
    · obtain rfl : i = n := by omega
      clear hlt
      have hm9 : m < 1000 := by have := HM.out; omega
      go_wp2_with fail
      refine (avoices_any P.A (some P.f) _ _ m w _ (LI.out.ent memP_inX) (HOK.out _ _) (lv_snd m (by omega) fun j _ => DV_snd K M l i j) (by omega)).mono ?_
      rintro e w5 ⟨u, rfl, hL⟩
      obtain ⟨D2, hD2⟩ : ∃ D2, D2 = fun j => if j < i then vn (DV K M l i j) else DV K M l i j := ⟨_, rfl⟩
      have VP := Lib.hid (voices_plain (n := i) K M m l D2 hD2)
      rw [HK.out.1, HK.out.2, HN.out, VP.out.1] at hL
      obtain ⟨ua, uc, rfl⟩ := Own.slice' (ownT.own hL.left)
      rw [show (ivs ((wants l i).map Int.ofNat)).length = (wants l i).length by simp] at hL ⊢
      have L5 := Lib.hid (ownT.nil 3 (hL.ent (.star (.refl _) memP_outX)))
      clear hL p0 hD2
      go_wp2_with fail
      go_loopw [10, 11] (fun v10 v11 wr => ∃ (j : Nat) (xa : Option Addr) (xc : Nat), j ≤ i ∧ v11 = .int .i64 (j : Nat) ∧ v10 = .slice xa (agains l j).length xc ∧ Hid (Lab w wr ((ownT 3 (.slice xa (agains l j).length xc) (ivs ((agains l j).map Int.ofNat))).star ((ownT 3 (.slice ua (wants l i).length uc) (ivs ((wants l i).map Int.ofNat))).star ((ownT 3 (.slice wa (wants l i).length wc) (ivs ((wants l i).map Int.ofNat))).star (memP P (lv i (m + i) D2) t0 YY)))))) (fun _ v11 _ => (i - intOf v11).toNat)
      case atStart => exact ⟨0, none, 0, by omega, rfl, rfl, L5⟩
      case round =>
        obtain ⟨j, xa, xc, hj, rfl, rfl, LJ⟩ := hrel
        have p0 := (memP.cells LJ.out.right.right.right).1
        go_wp2_with fail
        refine (aN_any P.A w _ (memP.arr LJ.out.right.right.right)).mono ?_; rintro e w6 ⟨rfl, rfl⟩
        rw [HN.out]
        by_cases hji : j < i
        · have hji' : (j : Int) < (i : Int) := by omega
          obtain ⟨k, hk⟩ : ∃ k, kd l j = k := ⟨_, rfl⟩
          have HKD := Lib.hid hk
          have hc : k < 5 := by rw [← HKD.out]; exact kd_lt l j
          clear hk
          by_cases hjl : j < l.length
          · have hjl' : (j : Int) < (l.length : Int) := by omega
            obtain ⟨rb, ro, rfl, c1⟩ := (HV.out.ext LJ.out.toExt).at (show (bvs l)[j]? = some (bv (l.getD j 0)) by rw [bvs_get hjl, List.getD_eq_getElem?_getD, List.getElem?_eq_getElem hjl]; rfl)
            obtain ⟨x, hx⟩ : ∃ x, l.getD j 0 = x := ⟨_, rfl⟩
            have hxk : (x.toNat : Int) % 5 = (k : Nat) := by rw [← HKD.out, kd_in hjl, hx]; rfl
            rw [hx] at c1
            clear hx
            have hk5 : k = 0 ∨ k = 1 ∨ k = 2 ∨ k = 3 ∨ k = 4 := by omega
            rcases hk5 with rfl | rfl | rfl | rfl | rfl
            · have W1 := Lib.hid (show agains l (j + 1) = agains l j ++ [j] by rw [agains_succ, if_pos (by rw [HKD.out]; decide)])
              have HE := Lib.hid (show ivs ((agains l j).map Int.ofNat) ++ [.int .i64 (j : Int)] = ivs ((agains l j ++ [j]).map Int.ofNat) by simp)
              have HLE := Lib.hid (show (ivs ((agains l j).map Int.ofNat)).length ≤ 100000 by have := agains_len l j; simp; omega)
              clear p0
              go_wp2_with (at_builtin; refine list_of_wp rfl fun KK hKK => wp_lapp1 _ _ 52 3 (.int .i64 0) 8 rfl Try.underlying52 info_int rfl (by decide) rfl rfl rfl (by simp) LJ.out rfl HLE.out fun ad c w7 hL => hKK _ _ ?_)
              rw [HE.out] at hL
              have HL7 := Lib.hid hL
              clear hL
              go_wp2_with fail
              exact ⟨⟨j + 1, ad, c, by omega, by go_num, by rw [W1.out, List.length_append]; rfl, Lib.hid (by rw [W1.out, List.length_append]; exact HL7.out)⟩, by simp [intOf]; omega⟩
            · have W1 := Lib.hid (show agains l (j + 1) = agains l j by rw [agains_succ, if_neg (by rw [HKD.out]; decide)])
              clear p0
              go_wp2_with fail
              exact ⟨⟨j + 1, xa, xc, by omega, by go_num, by rw [W1.out], Lib.hid (by rw [W1.out]; exact LJ.out)⟩, by simp [intOf]; omega⟩
            · have W1 := Lib.hid (show agains l (j + 1) = agains l j by rw [agains_succ, if_neg (by rw [HKD.out]; decide)])
              clear p0
              go_wp2_with fail
              exact ⟨⟨j + 1, xa, xc, by omega, by go_num, by rw [W1.out], Lib.hid (by rw [W1.out]; exact LJ.out)⟩, by simp [intOf]; omega⟩
            · have W1 := Lib.hid (show agains l (j + 1) = agains l j ++ [j] by rw [agains_succ, if_pos (by rw [HKD.out]; decide)])
              have HE := Lib.hid (show ivs ((agains l j).map Int.ofNat) ++ [.int .i64 (j : Int)] = ivs ((agains l j ++ [j]).map Int.ofNat) by simp)
              have HLE := Lib.hid (show (ivs ((agains l j).map Int.ofNat)).length ≤ 100000 by have := agains_len l j; simp; omega)
              clear p0
              go_wp2_with (at_builtin; refine list_of_wp rfl fun KK hKK => wp_lapp1 _ _ 52 3 (.int .i64 0) 8 rfl Try.underlying52 info_int rfl (by decide) rfl rfl rfl (by simp) LJ.out rfl HLE.out fun ad c w7 hL => hKK _ _ ?_)
              rw [HE.out] at hL
              have HL7 := Lib.hid hL
              clear hL
              go_wp2_with fail
              exact ⟨⟨j + 1, ad, c, by omega, by go_num, by rw [W1.out, List.length_append]; rfl, Lib.hid (by rw [W1.out, List.length_append]; exact HL7.out)⟩, by simp [intOf]; omega⟩
            · have W1 := Lib.hid (show agains l (j + 1) = agains l j by rw [agains_succ, if_neg (by rw [HKD.out]; decide)])
              clear p0
              go_wp2_with fail
              exact ⟨⟨j + 1, xa, xc, by omega, by go_num, by rw [W1.out], Lib.hid (by rw [W1.out]; exact LJ.out)⟩, by simp [intOf]; omega⟩
          · have hjl' : (l.length : Int) ≤ (j : Int) := by omega
            obtain rfl : k = 0 := by rw [← HKD.out]; exact kd_out hjl
            clear hjl
            have W1 := Lib.hid (show agains l (j + 1) = agains l j ++ [j] by rw [agains_succ, if_pos (by rw [HKD.out]; decide)])
            have HE := Lib.hid (show ivs ((agains l j).map Int.ofNat) ++ [.int .i64 (j : Int)] = ivs ((agains l j ++ [j]).map Int.ofNat) by simp)
            have HLE := Lib.hid (show (ivs ((agains l j).map Int.ofNat)).length ≤ 100000 by have := agains_len l j; simp; omega)
            clear p0
            go_wp2_with (at_builtin; refine list_of_wp rfl fun KK hKK => wp_lapp1 _ _ 52 3 (.int .i64 0) 8 rfl Try.underlying52 info_int rfl (by decide) rfl rfl rfl (by simp) LJ.out rfl HLE.out fun ad c w7 hL => hKK _ _ ?_)
            rw [HE.out] at hL
            have HL7 := Lib.hid hL
            clear hL
            go_wp2_with fail
            exact ⟨⟨j + 1, ad, c, by omega, by go_num, by rw [W1.out, List.length_append]; rfl, Lib.hid (by rw [W1.out, List.length_append]; exact HL7.out)⟩, by simp [intOf]; omega⟩
        · obtain rfl : j = i := by omega
          clear hji
          have HW := Lib.hid (show ((wants l j).map Int.ofNat).length ≤ 100000 by have := wants_len l j; simp; omega)
          have HG := Lib.hid (show ((agains l j).map Int.ofNat).length ≤ 100000 by have := agains_len l j; simp; omega)
          go_wp2_with fail
          refine (ints_any _ _ ((wants l j).map Int.ofNat) ((wants l j).map Int.ofNat) true (by simp) HW.out HW.out _ (ownT.own LJ.out.right.left).cells (ownT.own LJ.out.right.right.left).cells).mono ?_; rintro e w7 ⟨rfl, x7⟩
          have L7 := Lib.hid ((LJ.out.ext x7).ent (.star (.refl _) (Thing.Ent.right.trans .right)))
          have q0 := (memP.cells L7.out.right).1
          clear x7 p0
          go_wp2_with fail
          refine (avoices_any P.A (some P.f) _ _ (m + j) w _ (L7.out.ent memP_inX) (HOK.out _ _) (lv_snd (m + j) (by omega) fun q _ => VP.out.2.2 q) (by omega)).mono ?_
          rintro e w8 ⟨g, rfl, hL⟩
          rw [HK.out.1, HK.out.2, HN.out, VP.out.2.1] at hL
          obtain ⟨ga, gc, rfl⟩ := Own.slice' (ownT.own hL.left)
          rw [show (ivs ((agains l j).map Int.ofNat)).length = (agains l j).length by simp] at hL ⊢
          have L8 := Lib.hid (hL.ent (.star (.refl _) memP_outX))
          clear hL q0
          go_wp2_with fail
          refine (ints_any _ _ ((agains l j).map Int.ofNat) ((agains l j).map Int.ofNat) true (by simp) HG.out HG.out _ (ownT.own L8.out.left).cells (ownT.own L8.out.right.left).cells).mono ?_; rintro e w9 ⟨rfl, x9⟩
          have X9 := Lib.hid (Ext.trans L8.out.toExt x9)
          clear x9
          go_wp2_with fail
          go_ret
          exact ⟨rfl, X9.out⟩
end Go.Proofs.Ythkbbcdnmdjhdaa
