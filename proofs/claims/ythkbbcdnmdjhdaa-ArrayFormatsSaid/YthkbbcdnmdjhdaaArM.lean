/-
  ArrayFormats: the walk.
-/
import Derived.Test.YthkbbcdnmdjhdaaArK
import Derived.Test.YthkbbcdnmdjhdaaArH
import Derived.Test.YthkbbcdnmdjhdaaArMp
/-! XArM: ArrayFormats: the walk. -/
namespace Go.Proofs.Ythkbbcdnmdjhdaa
open Go.RowKit Dk
set_option maxRecDepth 100000
set_option maxHeartbeats 4000000
attribute [local go_sem] min_int2 max_int2 bstr_toList

theorem formats_law (w : World) (sk : Int) (_bk : -9223372036854775808 ≤ sk ∧ sk ≤ 9223372036854775807) (sm : Int) (_bm : -9223372036854775808 ≤ sm ∧ sm ≤ 9223372036854775807) (sb : Int) (_bb : -9223372036854775808 ≤ sb ∧ sb ≤ 9223372036854775807) (n0 n1 n2 : UInt8) :
    Calls Try.prog 6 #[.agg #[.int .i64 sk, .int .i64 sm, .int .i64 sb], .agg #[bv n0, bv n1, bv n2]] w fun e w' => e = .returned (.bool true) ∧ Ext w w' := by
  obtain ⟨x, hx⟩ : ∃ x, n0.toNat = x := ⟨_, rfl⟩
  obtain ⟨y, hy⟩ : ∃ y, n1.toNat = y := ⟨_, rfl⟩
  obtain ⟨z, hz⟩ : ∃ z, n2.toNat = z := ⟨_, rfl⟩
  have hx2 : x < 256 := by rw [← hx]; exact UInt8.toNat_lt _
  have hy2 : y < 256 := by rw [← hy]; exact UInt8.toNat_lt _
  have hz2 : z < 256 := by rw [← hz]; exact UInt8.toNat_lt _
  rw [show bv n0 = .int .u8 (x : Nat) from by subst hx; rfl, show bv n1 = .int .u8 (y : Nat) from by subst hy; rfl, show bv n2 = .int .u8 (z : Nat) from by subst hz; rfl]
  have hL1 := ((Lab.start w).newrow 23 #[.int .i64 sk, .int .i64 sm, .int .i64 sb]).newrow 60 #[.int .u8 (x : Nat), .int .u8 (y : Nat), .int .u8 (z : Nat)]
  obtain ⟨sbx, hsb⟩ : ∃ b, w.heap.size = b := ⟨_, rfl⟩
  obtain ⟨bb, hbb⟩ : ∃ b, (w.alloc (.cells #[.int .i64 sk, .int .i64 sm, .int .i64 sb] 23)).heap.size = b := ⟨_, rfl⟩
  rw [hbb, hsb] at hL1
  have hbb2 : sbx + 1 = bb := by rw [← hbb, ← hsb]; simp
  clear hx hy hz hbb
  go_enter Try.func6, Try.ntmps6
  go_wp2_with fail
  refine (aawake_any _).mono ?_; rintro e w2 ⟨rfl, x2⟩
  have L2 := Lib.hid (hL1.ext x2)
  have c0 := (rowT.row L2.out.right.left).cell (i := 0) (v := .int .i64 sk) rfl
  have c1 := (rowT.row L2.out.right.left).cell (i := 1) (v := .int .i64 sm) rfl
  have c2 := (rowT.row L2.out.right.left).cell (i := 2) (v := .int .i64 sb) rfl
  clear hL1 x2 hsb
  go_wp2_with fail
  by_cases hr : 1 ≤ sk ∧ sk ≤ 12 ∧ 1 ≤ sm ∧ sm ≤ 12
  case neg =>
    have HR := Lib.hid hr
    clear hr
    refine (make_bad sk sm sb 1000 HR.out _).mono ?_; rintro e w3 ⟨rfl, x3⟩
    have X3 := Lib.hid (Ext.trans L2.out.toExt x3)
    clear x3
    go_wp2_with fail
    go_ret
    exact ⟨rfl, X3.out⟩
  refine (make_any sk sm sb 1000 hr w _ _ L2.out).mono ?_
  rintro e w3 (⟨-, rfl, x3⟩ | ⟨P, K, M, B, hm, rfl, hL⟩)
  · go_wp2_with fail
    go_ret
    exact ⟨rfl, x3⟩
  obtain ⟨n, hn⟩ : ∃ n, K + M = n := ⟨_, rfl⟩
  obtain ⟨YY, hYY⟩ : ∃ YY, (rowT bb 60 #[.int .u8 (x : Nat), .int .u8 (y : Nat), .int .u8 (z : Nat)]).star ((rowT sbx 23 #[.int .i64 sk, .int .i64 sm, .int .i64 sb]).star blankT) = YY := ⟨_, rfl⟩
  have HYY := Lib.hid hYY
  have hn24 : n ≤ 24 ∧ 2 ≤ n := by have := hm.k1; have := hm.k2; have := hm.m1; have := hm.m2; omega
  have e0 : blanks (K + M) 1000 = lv n 0 (DF K M 0) := by
    rw [hn]
    exact (blanks_lv n _).trans (congrArg (lv n 0) (funext fun j => (if_neg (by omega)).symm))
  have HOK := Lib.hid (show ∀ m D, P.A.Ok (lv n m D) from fun m D => hm.ok (by rw [lv_len, hn]))
  have HN := Lib.hid (show P.A.ss.length = n from hm.an.trans hn)
  have HK := Lib.hid (And.intro hm.aK hm.aM)
  obtain ⟨t0, ht0⟩ : ∃ t0, blanks (K + M) 1000 = t0 := ⟨_, rfl⟩
  have hL2 : Lab w w3 (memP P (blanks (K + M) 1000) (blanks (K + M) 1000) YY) := hYY ▸ hL
  rw [show memP P (blanks (K + M) 1000) (blanks (K + M) 1000) YY = memP P (lv n 0 (DF K M 0)) t0 YY from by rw [← ht0, ← e0]] at hL2
  have L3 := Lib.hid hL2
  have p0 := (memP.cells hL2).1
  clear hL hm hr e0 c0 c1 c2 hL2 hYY ht0 hn
  go_wp2_with fail
  refine (aN_any P.A w _ (memP.arr L3.out)).mono ?_; rintro e w4 ⟨rfl, rfl⟩
  rw [HN.out]
  clear p0
  go_wp2_with fail
  go_loopw [7] (fun v7 wr => ∃ i : Nat, i ≤ n ∧ v7 = .int .i64 (i : Nat) ∧ Hid (Lab w wr (memP P (lv n (3 * i) (DF K M i)) t0 YY))) (fun v7 _ => (n - intOf v7).toNat)
  case atStart => exact ⟨0, by omega, rfl, L3⟩
  case round =>
    obtain ⟨i, hi, rfl, LI⟩ := hrel
    have p0 := (memP.cells LI.out).1
    by_cases hlt : i < n
    · have hlt' : (i : Int) < (n : Int) := by omega
      have E1 := Lib.hid (DF_save (n := n) K M (3 * i) hlt)
      go_wp2_with fail
      refine (aformat_any P.A (some P.f) _ _ (3 * i) i w _ (LI.out.ent memP_in) (HOK.out _ _) (lv_snd (3 * i) (by omega) fun j _ => DF_snd K M i j) (by omega) (by rw [HN.out]; exact hlt)).mono ?_
      rintro e w5 ⟨rfl, hL⟩
      rw [HK.out.1, HK.out.2, E1.out] at hL ⊢
      have L5 := Lib.hid (show Lab w w5 (memP P (lv n (3 * (i + 1)) (DF K M (i + 1))) t0 YY) from hL.ent memP_out)
      clear hL p0
      go_wp2_with fail
      exact ⟨⟨i + 1, by omega, by go_num, L5⟩, by simp [intOf]; omega⟩
    · obtain rfl : i = n := by omega
      clear hlt
      have BX := Lib.hid (show ∀ W s, Lab w W (memP P s t0 YY) → W.cell? ⟨bb, 0, none⟩ = some (.int .u8 (x : Nat)) ∧ W.cell? ⟨bb, 1, none⟩ = some (.int .u8 (y : Nat)) ∧ W.cell? ⟨bb, 2, none⟩ = some (.int .u8 (z : Nat)) from fun W s h => by
        have h1 := h.right.right.right.right.right.right.right.right
        rw [← HYY.out] at h1
        have h2 := rowT.row h1.left
        exact ⟨h2.cell (i := 0) rfl, h2.cell (i := 1) rfl, h2.cell (i := 2) rfl⟩)
      obtain ⟨a, ha⟩ : ∃ a, x % i = a := ⟨_, rfl⟩
      obtain ⟨o, ho⟩ : ∃ o, y % i = o := ⟨_, rfl⟩
      obtain ⟨j, hj⟩ : ∃ j, z % 11 = j := ⟨_, rfl⟩
      have hai : a < i := by rw [← ha]; exact Nat.mod_lt _ (by omega)
      have hoi : o < i := by rw [← ho]; exact Nat.mod_lt _ (by omega)
      have hj11 : j < 11 := by omega
      have hxr : (x : Int) % (i : Int) = (a : Nat) := by rw [← ha]; rfl
      have hyr : (y : Int) % (i : Int) = (o : Nat) := by rw [← ho]; rfl
      have hzr : (IntKind.i64.wrap (z : Int)).tmod 11 = (j : Nat) := by rw [show IntKind.i64.wrap (z : Int) = (z : Int) from by rw [IntKind.wrap_i64]; omega, ← hj]; rfl
      have FP := Lib.hid (formats_plain (n := i) K M a o (3 * i) j (D := DF K M i) (fun q hq => if_pos hq) hai hoi (by omega) hj11)
      obtain ⟨b0, b1, b2⟩ := BX.out _ _ LI.out
      have HZ := Lib.hid hzr
      clear ha ho hj hzr p0
      go_wp2_with fail
      go_quiet (fail)
      have LQ := Lib.hid (LI.out.ext (Ext.of_drawn wr nq))
      generalize wr.drewN nq = w4 at LQ ⊢
      rw [hxr, hyr]
      obtain ⟨so, hso⟩ : ∃ so, P.A.ss[o]? = some so := ⟨_, List.getElem?_eq_getElem (by rw [HN.out]; exact hoi)⟩
      obtain ⟨sa, hsa⟩ : ∃ sa, P.A.ss[a]? = some sa := ⟨_, List.getElem?_eq_getElem (by rw [HN.out]; exact hai)⟩
      have HSO := Lib.hid hso
      have HSA := Lib.hid hsa
      have PC := Lib.hid (show ∀ W s, Lab w W (memP P s t0 YY) → W.cell? ⟨P.pb, 0, none⟩ = some (.pointer (some ⟨P.A.ab, 0, none⟩)) ∧ W.cell? ⟨P.pb, 1, none⟩ = some (.slice (some ⟨P.db, 0, none⟩) i P.dc) ∧ W.cell? ⟨P.db, a, none⟩ = some (.pointer (some ⟨sa, 0, none⟩)) ∧ W.cell? ⟨P.db, o, none⟩ = some (.pointer (some ⟨so, 0, none⟩)) from fun W s h => ⟨(memP.cells h).1, HN.out ▸ (memP.cells h).2.1, memP.sim h HSA.out, memP.sim h HSO.out⟩)
      have hio : (o : Int) < (i : Int) := by omega
      have hia : (a : Int) < (i : Int) := by omega
      have hlen : ∀ q, q < i → q < P.A.ss.length := fun q hq => by rw [HN.out]; exact hq
      have HLEN := Lib.hid hlen
      have HS0 := Lib.hid (lv_snd (3 * i) (by omega) fun j _ => DF_snd K M i j : ASnd (lv i (3 * i) (DF K M i)) (3 * i))
      have HS1 := Lib.hid (lv_snd (3 * i + 1) (by omega) fun j _ => DF_snd K M i j : ASnd (lv i (3 * i + 1) (DF K M i)) (3 * i + 1))
      have HSu := Lib.hid (show ∀ m d, Snd d → ASnd (lv i m (upd (DF K M i) a d)) m from fun m d hd => lv_snd m (by omega) (upd_snd (fun j _ => DF_snd K M i j) hd))
      obtain ⟨-, d1, -, d3⟩ := PC.out _ _ LQ.out
      clear hso hsa hlen b0 b1 b2 hxr hyr
      go_wp2_with fail
      refine (Lab.aread (LQ.out.ent memP_in) (HOK.out _ _) HS0.out (by omega) HSO.out fmtP (by decide)).mono ?_
      rintro e w5 ⟨u, rfl, hL⟩
      rw [FP.out.1] at hL ⊢
      have hb := ownT.own hL.left
      obtain ⟨ua, uc, rfl⟩ := Own.slice' hb
      have L5 := Lib.hid (show Lab w w5 (memP P (lv i (3 * i + 1) (DF K M i)) t0 YY) from hL.right.ent memP_out)
      have HB := Lib.hid (show Bytes w5 (.slice ua 11 uc) (fmtB K M o) from hb.cells)
      obtain ⟨-, d1, d2, -⟩ := PC.out _ _ L5.out
      clear hL hb d3
      rw [show (bvs (fmtB K M o)).length = 11 from rfl]
      go_wp2_with fail
      refine (Lab.awrite (L5.out.ent memP_in) (HOK.out _ _) HS1.out (by omega) HSA.out fmtP _ (fmtB K M o) (by decide) HB.out (by rw [fmtB_len]; decide)).mono ?_
      rintro e w6 ⟨rfl, hL⟩
      rw [FP.out.2.1] at hL ⊢
      have L6 := Lib.hid (show Lab w w6 (memP P (lv i (3 * i + 2) (upd (DF K M i) a (ok1 (fF (fmtB K M o) false)))) t0 YY) from hL.ent memP_out)
      obtain ⟨d0, d1, d2, -⟩ := PC.out _ _ L6.out
      clear hL
      go_wp2_with fail
      refine (avoice_any P.A (some P.f) _ _ (3 * i + 2) a w _ (L6.out.ent memP_in) (HOK.out _ _) (HSu.out _ _ (fmt_snd ..)) (by omega) (HLEN.out _ hai)).mono ?_
      rintro e w7 ⟨rfl, hL⟩
      rw [HK.out.1, HK.out.2, FP.out.2.2.1] at hL ⊢
      have L7 := Lib.hid (show Lab w w7 (memP P (lv i (3 * i + 3) (upd (DF K M i) a (ok1 (fF (fmtB K M o) false)))) t0 YY) from hL.ent memP_out)
      clear hL d0 d1 d2
      obtain ⟨dd, hdd⟩ : ∃ dd, decide (a = o) = dd := ⟨_, rfl⟩
      have hde : ((a : Int) == (o : Int)) = dd := by rw [← hdd, Bool.eq_iff_iff, beq_iff_eq, decide_eq_true_eq]; omega
      have hdf : decide ((a : Int) = (o : Int)) = dd := by rw [← hdd]; exact decide_eq_decide.2 (by omega)
      have SK := Lib.hid (show ∀ W s, Lab w W (memP P s t0 YY) → (fun w' : World => w'.cell? ⟨P.pb, 0, none⟩ = some (.pointer (some ⟨P.A.ab, 0, none⟩)) ∧ w'.cell? ⟨P.pb, 1, none⟩ = some (.slice (some ⟨P.db, 0, none⟩) i P.dc) ∧ w'.cell? ⟨P.db, a, none⟩ = some (.pointer (some ⟨sa, 0, none⟩)) ∧ w'.cell? ⟨bb, 2, none⟩ = some (.int .u8 (z : Nat))) W from fun W s h => ⟨(PC.out _ _ h).1, (PC.out _ _ h).2.1, (PC.out _ _ h).2.2.1, (BX.out _ _ h).2.2⟩)
      have FA : Hid (∀ W, Lab w W (memP P (lv i (3 * i + 3) (upd (DF K M i) a (ok1 (fF (fmtB K M o) false)))) t0 YY) → Calls Try.prog 18 #[.pointer (some ⟨P.A.ab, 0, none⟩), .int .i64 (a : Nat)] W fun e w' => e = .returned (.int .i64 0) ∧ (fun w' : World => w'.cell? ⟨P.pb, 0, none⟩ = some (.pointer (some ⟨P.A.ab, 0, none⟩)) ∧ w'.cell? ⟨P.pb, 1, none⟩ = some (.slice (some ⟨P.db, 0, none⟩) i P.dc) ∧ w'.cell? ⟨P.db, a, none⟩ = some (.pointer (some ⟨sa, 0, none⟩)) ∧ w'.cell? ⟨bb, 2, none⟩ = some (.int .u8 (z : Nat))) w' ∧ Lab w w' (memP P (lv i (3 * i + 6) (upd (DF K M i) a (ok1 (fF (fmtB K M a) true)))) t0 YY)) := Lib.hid fun W h => by
        refine (aformat_any P.A (some P.f) _ _ (3 * i + 3) a w W (h.ent memP_in) (HOK.out _ _) (HSu.out _ _ (fmt_snd ..)) (by omega) (HLEN.out _ hai)).mono ?_
        rintro e w' ⟨k1, k2⟩
        rw [HK.out.1, HK.out.2, FP.out.2.2.2.1] at k1 k2
        exact ⟨k1, SK.out _ _ (k2.ent memP_out), k2.ent memP_out⟩
      have FB : Hid (∀ W, Lab w W (memP P (lv i (3 * i + 6) (upd (DF K M i) a (ok1 (fF (fmtB K M a) true)))) t0 YY) → Calls Try.prog 27 #[.pointer (some ⟨sa, 0, none⟩), .string (bstr fmtP), .int .i64 (j : Nat), .int .u32 1] W fun e w' => e = .returned (.bool true) ∧ (fun w' : World => w'.cell? ⟨P.pb, 0, none⟩ = some (.pointer (some ⟨P.A.ab, 0, none⟩)) ∧ w'.cell? ⟨P.pb, 1, none⟩ = some (.slice (some ⟨P.db, 0, none⟩) i P.dc) ∧ w'.cell? ⟨P.db, a, none⟩ = some (.pointer (some ⟨sa, 0, none⟩)) ∧ w'.cell? ⟨bb, 2, none⟩ = some (.int .u8 (z : Nat))) w' ∧ Lab w w' (memP P (lv i (3 * i + 6) (upd (DF K M i) a (ok1 (fF (flipl (fmtB K M a) j 1 4) true)))) t0 YY)) := Lib.hid fun W h => by
        refine (Lab.aflip (h.ent memP_in) (HOK.out _ _) (HSu.out _ _ (fmt_snd ..)) HSA.out fmtP (j : Nat) (by omega) 1 (by decide)).mono ?_
        rintro e w' ⟨k1, k2⟩
        rw [FP.out.2.2.2.2.1] at k1
        rw [FP.out.2.2.2.2.2.1] at k2
        exact ⟨k1, SK.out _ _ (k2.ent memP_out), k2.ent memP_out⟩
      have x0 := L7.out.drew
      have S0 : (fun w' : World => w'.cell? ⟨P.pb, 0, none⟩ = some (.pointer (some ⟨P.A.ab, 0, none⟩)) ∧ w'.cell? ⟨P.pb, 1, none⟩ = some (.slice (some ⟨P.db, 0, none⟩) i P.dc) ∧ w'.cell? ⟨P.db, a, none⟩ = some (.pointer (some ⟨sa, 0, none⟩)) ∧ w'.cell? ⟨bb, 2, none⟩ = some (.int .u8 (z : Nat))) w7.drew := SK.out _ _ x0
      have hzr := HZ.out
      have hzr2 : (z : Int) % 11 = (j : Nat) := by rw [← hzr, show IntKind.i64.wrap (z : Int) = (z : Int) from by rw [IntKind.wrap_i64]; omega]; rfl
      go_wp2_with fail
      go_region_held3 (fun w' : World => w'.cell? ⟨P.pb, 0, none⟩ = some (.pointer (some ⟨P.A.ab, 0, none⟩)) ∧ w'.cell? ⟨P.pb, 1, none⟩ = some (.slice (some ⟨P.db, 0, none⟩) i P.dc) ∧ w'.cell? ⟨P.db, a, none⟩ = some (.pointer (some ⟨sa, 0, none⟩)) ∧ w'.cell? ⟨bb, 2, none⟩ = some (.int .u8 (z : Nat))) (assumption) (first | (go_at_call 18; refine (FA.out _ x0).mono ?_; rintro e w8 ⟨rfl, hS8, hL8⟩) | (go_at_call 27; refine (FB.out _ hL8).mono ?_; rintro e w9 ⟨rfl, hS9, hL9⟩))
      have L9 := Lib.hid hL9
      obtain ⟨d0, -, -, -⟩ := PC.out _ _ L9.out
      clear hS8 hL8 hS9 hL9 x0 S0 FA FB hzr hzr2 hde hdf
      have HSf := Lib.hid (HSu.out (3 * i + 6) _ (flp_snd K M a j true))
      have HSg := Lib.hid (HSu.out (3 * i + 7) _ (flp_snd K M a j true))
      have HSh := Lib.hid (HSu.out (3 * i + 8) _ (snd_ok (.inl rfl)))
      have HSi := Lib.hid (HSu.out (3 * i + 9) _ (snd_ok (.inl rfl)))
      go_wp2_with fail
      refine (avoice_any P.A (some P.f) _ _ (3 * i + 6) a w _ (L9.out.ent memP_in) (HOK.out _ _) HSf.out (by omega) (HLEN.out _ hai)).mono ?_
      rintro e w10 ⟨rfl, hL⟩
      rw [HK.out.1, HK.out.2, FP.out.2.2.2.2.2.2.1] at hL ⊢
      have L10 := Lib.hid (show Lab w w10 (memP P (lv i (3 * i + 7) (upd (DF K M i) a (ok1 (fF (flipl (fmtB K M a) j 1 4) true)))) t0 YY) from hL.ent memP_out)
      obtain ⟨-, d1, d2, -⟩ := PC.out _ _ L10.out
      clear hL d0
      go_wp2_with fail
      refine (Lab.adelete (L10.out.ent memP_in) (HOK.out _ _) HSg.out (by omega) HSA.out fmtP (by decide)).mono ?_
      rintro e w11 ⟨rfl, hL⟩
      rw [FP.out.2.2.2.2.2.2.2.1] at hL ⊢
      have L11 := Lib.hid (show Lab w w11 (memP P (lv i (3 * i + 8) (upd (DF K M i) a (ok1 []))) t0 YY) from hL.ent memP_out)
      obtain ⟨d0, -, -, -⟩ := PC.out _ _ L11.out
      clear hL d1 d2
      go_wp2_with fail
      refine (avoice_any P.A (some P.f) _ _ (3 * i + 8) a w _ (L11.out.ent memP_in) (HOK.out _ _) HSh.out (by omega) (HLEN.out _ hai)).mono ?_
      rintro e w12 ⟨rfl, hL⟩
      rw [HK.out.1, HK.out.2, FP.out.2.2.2.2.2.2.2.2.1] at hL ⊢
      have L12 := Lib.hid (show Lab w w12 (memP P (lv i (3 * i + 9) (upd (DF K M i) a (ok1 []))) t0 YY) from hL.ent memP_out)
      replace d0 := (PC.out _ _ L12.out).1
      clear hL
      go_wp2_with fail
      refine (avoices_any P.A (some P.f) _ _ (3 * i + 9) w _ (L12.out.ent memP_in) (HOK.out _ _) HSi.out (by omega)).mono ?_
      rintro e w13 ⟨v, rfl, hL⟩
      have hb := ownT.own hL.left
      have HX := Lib.hid hL.toExt
      rw [HK.out.1, HK.out.2, HN.out] at hb
      obtain ⟨va, vc, rfl⟩ := Own.slice' hb
      have e9 : (ivs (((lv i (3 * i + 9) (upd (DF K M i) a (ok1 []))).voices (fmtB K M) i).1.map Int.ofNat)).length = i - 1 := by
        simp only [ivs, List.length_map]
        exact FP.out.2.2.2.2.2.2.2.2.2
      rw [e9]
      have e10 : ((i - 1 : Nat) : Int) = (i : Int) - 1 := by omega
      clear hL hb e9 d0
      go_wp2_with fail
      go_ret
      exact ⟨by simp, HX.out⟩
end Go.Proofs.Ythkbbcdnmdjhdaa
