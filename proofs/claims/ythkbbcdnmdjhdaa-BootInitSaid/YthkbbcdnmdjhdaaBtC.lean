/-
  BootInit: the walk.
-/
import Derived.Test.YthkbbcdnmdjhdaaBtP
import Derived.Test.YthkbbcdnmdjhdaaBtB
/-! XBtC: BootInit: the walk. -/
namespace Go.Proofs.Ythkbbcdnmdjhdaa
open Go.RowKit Dk
set_option maxRecDepth 100000
set_option maxHeartbeats 4000000
attribute [local go_sem] min_int2 max_int2 bstr_toList

theorem memP_inB {P : PA} {s t : AS} {X Y : Thing} : (X.star (memP P s t Y)).Ent (memA P.A (some P.f) s (X.star (restP P t Y))) := (Thing.Ent.star (.refl _) memP_in).trans memA_in
theorem memP_outB {P : PA} {s t : AS} {X Y : Thing} : (memA P.A (some P.f) s (X.star (restP P t Y))).Ent (X.star (memP P s t Y)) := memA_out.trans (.star (.refl _) memP_out)

theorem DI_zero (K M a k : Nat) {n : Nat} (h : a = n) (m : Nat) : lv n m (DI K M a k 0) = lv n m fun _ => ok1 [] := by
  unfold lv
  refine congrArg (AS.mk _) (List.map_congr_left fun j hj => ?_)
  have hj' := List.mem_range.1 hj
  unfold DI
  rw [if_neg (by omega), if_neg (by omega)]
theorem DI_bad (K M a k : Nat) {n : Nat} (ha : a < n) (m : Nat) (F : DS → DS) (hF : F (ok1 []) = badK k) : (lv n m fun _ => ok1 []).on a F = lv n m (DI K M a k 0) := by
  rw [lv_on _ _ ha, hF]
  refine congrArg (lv n m) (funext fun j => ?_)
  unfold upd DI
  by_cases e : j = a
  · rw [if_pos e, if_neg (by omega)]
  · rw [if_neg e, if_neg (by omega)]
theorem binit_law (w : World) (sk : Int) (_bk : -9223372036854775808 ≤ sk ∧ sk ≤ 9223372036854775807) (sm : Int) (_bm : -9223372036854775808 ≤ sm ∧ sm ≤ 9223372036854775807) (sb : Int) (_bb : -9223372036854775808 ≤ sb ∧ sb ≤ 9223372036854775807) (bad kind : UInt8) :
    Calls Try.prog 8 #[.agg #[.int .i64 sk, .int .i64 sm, .int .i64 sb], bv bad, bv kind] w fun e w' => e = .returned (.bool true) ∧ Ext w w' := by
  obtain ⟨x, hx⟩ : ∃ x, bad.toNat = x := ⟨_, rfl⟩
  obtain ⟨y, hy⟩ : ∃ y, kind.toNat = y := ⟨_, rfl⟩
  have hx2 : x < 256 := by rw [← hx]; exact UInt8.toNat_lt _
  have hy2 : y < 256 := by rw [← hy]; exact UInt8.toNat_lt _
  rw [show bv bad = .int .u8 (x : Nat) from by subst hx; rfl, show bv kind = .int .u8 (y : Nat) from by subst hy; rfl]
  have hL1 := (Lab.start w).newrow 23 #[.int .i64 sk, .int .i64 sm, .int .i64 sb]
  obtain ⟨sbx, hsb⟩ : ∃ b, w.heap.size = b := ⟨_, rfl⟩
  rw [hsb] at hL1
  clear hx hy
  go_enter Try.func8, Try.ntmps8
  go_wp2_with fail
  refine (bawake_any _).mono ?_; rintro e w2 ⟨rfl, x2⟩
  have L2 := Lib.hid (hL1.ext x2)
  have c0 := (rowT.row L2.out.left).cell (i := 0) (v := .int .i64 sk) rfl
  have c1 := (rowT.row L2.out.left).cell (i := 1) (v := .int .i64 sm) rfl
  have c2 := (rowT.row L2.out.left).cell (i := 2) (v := .int .i64 sb) rfl
  clear hL1 x2 hsb
  go_wp2_with fail
  by_cases hr : 1 ≤ sk ∧ sk ≤ 12 ∧ 1 ≤ sm ∧ sm ≤ 12
  case neg =>
    have HR := Lib.hid hr
    clear hr
    refine (make_bad sk sm sb 1000 HR.out _).mono ?_; rintro e w3 ⟨rfl, x3⟩
    have X3 := Lib.hid (Ext.trans L2.out.toExt x3)
    clear x3
    go_wp2_with fail
    go_ret
    exact ⟨rfl, X3.out⟩
  refine (make_any sk sm sb 1000 hr w _ _ L2.out).mono ?_
  rintro e w3 (⟨-, rfl, x3⟩ | ⟨P, K, M, B, hm, rfl, hL⟩)
  · go_wp2_with fail
    go_ret
    exact ⟨rfl, x3⟩
  obtain ⟨n, hn⟩ : ∃ n, K + M = n := ⟨_, rfl⟩
  obtain ⟨YY, hYY⟩ : ∃ YY, (rowT sbx 23 #[.int .i64 sk, .int .i64 sm, .int .i64 sb]).star blankT = YY := ⟨_, rfl⟩
  have hn24 : n ≤ 24 ∧ 2 ≤ n := by have := hm.k1; have := hm.k2; have := hm.m1; have := hm.m2; omega
  have HOK := Lib.hid (show ∀ s : AS, s.ds.length = n → P.A.Ok s from fun s h => hm.ok (by rw [h, hn]))
  have HN := Lib.hid (show P.A.ss.length = n from hm.an.trans hn)
  have HK := Lib.hid (And.intro hm.aK hm.aM)
  obtain ⟨t0, ht0⟩ : ∃ t0, blanks (K + M) 1000 = t0 := ⟨_, rfl⟩
  have hL2 : Lab w w3 (memP P (blanks (K + M) 1000) (blanks (K + M) 1000) YY) := hYY ▸ hL
  rw [show memP P (blanks (K + M) 1000) (blanks (K + M) 1000) YY = memP P (lv n 0 fun _ => ok1 []) t0 YY from by rw [← ht0, hn]; rw [show blanks n 1000 = lv n 0 fun _ => ok1 [] from blanks_lv n _]] at hL2
  have L3 := Lib.hid hL2
  have p0 := (memP.cells hL2).1
  clear hL hm hr c0 c1 c2 hL2 hYY ht0 hn
  go_wp2_with fail
  refine (aN_any P.A w _ (memP.arr L3.out)).mono ?_; rintro e w4 ⟨rfl, rfl⟩
  rw [HN.out]
  obtain ⟨a, ha⟩ : ∃ a, x % (n + 1) = a := ⟨_, rfl⟩
  have han : a ≤ n := by rw [← ha]; exact Nat.le_of_lt_succ (Nat.mod_lt _ (by omega))
  have hxr : (x : Int).tmod ((n : Int) + 1) = (a : Nat) := by rw [← ha]; rfl
  have hxr2 : (x : Int) % ((n : Int) + 1) = (a : Nat) := by rw [← ha]; rfl
  have HA := Lib.hid han
  clear ha
  go_wp2_with fail
  try rw [hxr]
  try rw [hxr2]
  refine (aN_any P.A w _ (memP.arr L3.out)).mono ?_; rintro e w4 ⟨rfl, rfl⟩
  rw [HN.out]
  have BP := Lib.hid (show ∀ k, ((lv n 0 (DI K M a k 0)).inits (fmtB K M) n).1 = (if a < n then (if k = 1 then 10 else 9) else 0) ∧ (((lv n 0 (DI K M a k 0)).inits (fmtB K M) n).2.voices (fmtB K M) n).1 = List.range a from fun k => binit_plain K M a k 0 han)
  have HS := Lib.hid (show ∀ k, ASnd (lv n 0 (DI K M a k 0)) 0 from fun k => lv_snd 0 (by omega) fun j _ => DI_snd K M a k 0 j)
  by_cases hlt : a < n
  case pos =>
    have hlt' : (a : Int) < (n : Int) := by omega
    obtain ⟨sa, hsa⟩ : ∃ sa, P.A.ss[a]? = some sa := ⟨_, List.getElem?_eq_getElem (by rw [HN.out]; exact hlt)⟩
    have p1 : w3.cell? ⟨P.pb, 1, none⟩ = some (.slice (some ⟨P.db, 0, none⟩) n P.dc) := HN.out ▸ (memP.cells L3.out).2.1
    have p2 := memP.sim L3.out hsa
    have HSA := Lib.hid hsa
    have HLT := Lib.hid hlt
    clear hsa han hlt hxr hxr2
    by_cases hk : y % 2 = 1
    · have e2 : bits .and .u8 (y : Int) 1 = 1 := by
        have := u8_and_nat y 1 hy2 (by decide)
        rw [Nat.and_one_is_mod, hk] at this
        exact this
      clear hk
      go_wp2_with fail
      refine (Lab.aoffline (L3.out.ent memP_in) (HOK.out _ (lv_len ..)) HSA.out true).mono ?_; rintro e w5 ⟨rfl, hL⟩
      rw [DI_bad K M a 1 HLT.out 0 (fun d => { d with off := true }) rfl] at hL
      have L5 := Lib.hid (hL.ent memP_out)
      have p0 := (memP.cells L5.out).1
      clear hL p1 p2 L3 e2
      go_wp2_with fail
      refine (binit_any P.A (some P.f) _ _ 0 w _ (L5.out.ent memP_in) (HOK.out _ (lv_len ..)) (HS.out 1) (by decide)).mono ?_; rintro e w6 ⟨rfl, hL⟩
      rw [HK.out.1, HK.out.2, HN.out] at hL ⊢
      rw [(BP.out 1).1, if_pos HLT.out, if_pos rfl]
      obtain ⟨s2, hs2⟩ : ∃ s2, ((lv n 0 (DI K M a 1 0)).inits (fmtB K M) n).2 = s2 := ⟨_, rfl⟩
      have HS2 := Lib.hid (show ASnd s2 (0 + 3 * n) ∧ s2.ds.length = n ∧ (s2.voices (fmtB K M) n).1 = List.range a from ⟨hs2 ▸ (HS.out 1).inits _ n, hs2 ▸ (AS.inits_len ..).trans (lv_len ..), hs2 ▸ (BP.out 1).2⟩)
      rw [hs2] at hL
      have L6 := Lib.hid (hL.ent memP_out)
      replace p0 := (memP.cells L6.out).1
      clear hL L5 hs2
      go_wp2_with fail
      refine (avoices_any P.A (some P.f) _ _ (0 + 3 * n) w _ (L6.out.ent memP_in) (HOK.out _ HS2.out.2.1) HS2.out.1 (by omega)).mono ?_; rintro e w7 ⟨u, rfl, hL⟩
      rw [HK.out.1, HK.out.2, HN.out, HS2.out.2.2] at hL
      obtain ⟨ua, uc, rfl⟩ := Own.slice' (ownT.own hL.left)
      rw [show (ivs ((List.range a).map Int.ofNat)).length = a by simp] at hL ⊢
      have L7 := Lib.hid hL
      clear hL p0 L6
      go_wp2_with fail
      go_loop [12] (fun v12 => ∃ i : Nat, i ≤ a ∧ v12 = .int .i64 (i : Nat)) (fun v12 => (a - intOf v12).toNat)
      case atStart => exact ⟨0, by omega, rfl⟩
      case round =>
        obtain ⟨i, hi, rfl⟩ := hrel
        by_cases hia : i < a
        · have hia' : (i : Int) < (a : Int) := by omega
          obtain ⟨rb, ro, rfl, c1⟩ := ((ownT.own L7.out.left).cells).at (show (ivs ((List.range a).map Int.ofNat))[i]? = some (.int .i64 (i : Nat)) by simp [hia])
          go_wp2_with fail
          exact ⟨⟨i + 1, by omega, by go_num⟩, by simp [intOf]; omega⟩
        · obtain rfl : i = a := by omega
          clear hia
          go_wp2_with fail
          go_ret
          exact ⟨by simp, L7.out.toExt⟩
    · have e2 : bits .and .u8 (y : Int) 1 = 0 := by
        have := u8_and_nat y 1 hy2 (by decide)
        rw [Nat.and_one_is_mod, show y % 2 = 0 by omega] at this
        exact this
      clear hk
      go_wp2_with fail
      refine (Lab.afail (L3.out.ent memP_in) (HOK.out _ (lv_len ..)) HSA.out 1 (by decide)).mono ?_; rintro e w5 ⟨rfl, hL⟩
      rw [DI_bad K M a 0 HLT.out 0 (fun d => { d with bad := (1 : Int).toNat }) rfl] at hL
      have L5 := Lib.hid (hL.ent memP_out)
      have p0 := (memP.cells L5.out).1
      clear hL p1 p2 L3 e2
      go_wp2_with fail
      refine (binit_any P.A (some P.f) _ _ 0 w _ (L5.out.ent memP_in) (HOK.out _ (lv_len ..)) (HS.out 0) (by decide)).mono ?_; rintro e w6 ⟨rfl, hL⟩
      rw [HK.out.1, HK.out.2, HN.out] at hL ⊢
      rw [(BP.out 0).1, if_pos HLT.out, if_neg (by decide)]
      obtain ⟨s2, hs2⟩ : ∃ s2, ((lv n 0 (DI K M a 0 0)).inits (fmtB K M) n).2 = s2 := ⟨_, rfl⟩
      have HS2 := Lib.hid (show ASnd s2 (0 + 3 * n) ∧ s2.ds.length = n ∧ (s2.voices (fmtB K M) n).1 = List.range a from ⟨hs2 ▸ (HS.out 0).inits _ n, hs2 ▸ (AS.inits_len ..).trans (lv_len ..), hs2 ▸ (BP.out 0).2⟩)
      rw [hs2] at hL
      have L6 := Lib.hid (hL.ent memP_out)
      replace p0 := (memP.cells L6.out).1
      clear hL L5 hs2
      go_wp2_with fail
      refine (avoices_any P.A (some P.f) _ _ (0 + 3 * n) w _ (L6.out.ent memP_in) (HOK.out _ HS2.out.2.1) HS2.out.1 (by omega)).mono ?_; rintro e w7 ⟨u, rfl, hL⟩
      rw [HK.out.1, HK.out.2, HN.out, HS2.out.2.2] at hL
      obtain ⟨ua, uc, rfl⟩ := Own.slice' (ownT.own hL.left)
      rw [show (ivs ((List.range a).map Int.ofNat)).length = a by simp] at hL ⊢
      have L7 := Lib.hid hL
      clear hL p0 L6
      go_wp2_with fail
      go_loop [12] (fun v12 => ∃ i : Nat, i ≤ a ∧ v12 = .int .i64 (i : Nat)) (fun v12 => (a - intOf v12).toNat)
      case atStart => exact ⟨0, by omega, rfl⟩
      case round =>
        obtain ⟨i, hi, rfl⟩ := hrel
        by_cases hia : i < a
        · have hia' : (i : Int) < (a : Int) := by omega
          obtain ⟨rb, ro, rfl, c1⟩ := ((ownT.own L7.out.left).cells).at (show (ivs ((List.range a).map Int.ofNat))[i]? = some (.int .i64 (i : Nat)) by simp [hia])
          go_wp2_with fail
          exact ⟨⟨i + 1, by omega, by go_num⟩, by simp [intOf]; omega⟩
        · obtain rfl : i = a := by omega
          clear hia
          go_wp2_with fail
          go_ret
          exact ⟨by simp, L7.out.toExt⟩
  case neg =>
    have han2 : a = n := by omega
    have ha24 : a ≤ 24 := by omega
    have hlt' : (n : Int) ≤ (a : Int) := by omega
    have L5 := Lib.hid (show Lab w w3 (memP P (lv n 0 (DI K M a 0 0)) t0 YY) by rw [DI_zero K M a 0 han2]; exact L3.out)
    have HLT := Lib.hid hlt
    have p0 := (memP.cells L5.out).1
    clear han hlt hxr hxr2 L3 han2
    go_wp2_with fail
    refine (binit_any P.A (some P.f) _ _ 0 w _ (L5.out.ent memP_in) (HOK.out _ (lv_len ..)) (HS.out 0) (by decide)).mono ?_; rintro e w6 ⟨rfl, hL⟩
    rw [HK.out.1, HK.out.2, HN.out] at hL ⊢
    rw [(BP.out 0).1, if_neg HLT.out]
    obtain ⟨s2, hs2⟩ : ∃ s2, ((lv n 0 (DI K M a 0 0)).inits (fmtB K M) n).2 = s2 := ⟨_, rfl⟩
    have HS2 := Lib.hid (show ASnd s2 (0 + 3 * n) ∧ s2.ds.length = n ∧ (s2.voices (fmtB K M) n).1 = List.range a from ⟨hs2 ▸ (HS.out 0).inits _ n, hs2 ▸ (AS.inits_len ..).trans (lv_len ..), hs2 ▸ (BP.out 0).2⟩)
    rw [hs2] at hL
    have L6 := Lib.hid (hL.ent memP_out)
    replace p0 := (memP.cells L6.out).1
    clear hL L5 hs2
    go_wp2_with fail
    refine (avoices_any P.A (some P.f) _ _ (0 + 3 * n) w _ (L6.out.ent memP_in) (HOK.out _ HS2.out.2.1) HS2.out.1 (by omega)).mono ?_; rintro e w7 ⟨u, rfl, hL⟩
    rw [HK.out.1, HK.out.2, HN.out, HS2.out.2.2] at hL
    obtain ⟨ua, uc, rfl⟩ := Own.slice' (ownT.own hL.left)
    rw [show (ivs ((List.range a).map Int.ofNat)).length = a by simp] at hL ⊢
    have L7 := Lib.hid hL
    clear hL p0 L6
    go_wp2_with fail
    go_loop [12] (fun v12 => ∃ i : Nat, i ≤ a ∧ v12 = .int .i64 (i : Nat)) (fun v12 => (a - intOf v12).toNat)
    case atStart => exact ⟨0, by omega, rfl⟩
    case round =>
      obtain ⟨i, hi, rfl⟩ := hrel
      by_cases hia : i < a
      · have hia' : (i : Int) < (a : Int) := by omega
        obtain ⟨rb, ro, rfl, c1⟩ := ((ownT.own L7.out.left).cells).at (show (ivs ((List.range a).map Int.ofNat))[i]? = some (.int .i64 (i : Nat)) by simp [hia])
        go_wp2_with fail
        exact ⟨⟨i + 1, by omega, by go_num⟩, by simp [intOf]; omega⟩
      · obtain rfl : i = a := by omega
        clear hia
        go_wp2_with fail
        go_ret
        exact ⟨by simp, L7.out.toExt⟩
end Go.Proofs.Ythkbbcdnmdjhdaa
