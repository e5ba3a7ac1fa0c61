/-
  BootPlays: the walk.
-/
import Derived.Test.YthkbbcdnmdjhdaaGreatBtV
import Derived.Test.YthkbbcdnmdjhdaaGreatBtB
import Derived.Test.YthkbbcdnmdjhdaaGreatHtB
import Derived.Test.YthkbbcdnmdjhdaaGreatApA
/-! XBtW: BootPlays: the walk. -/
namespace Go.Proofs.YthkbbcdnmdjhdaaGreat
open Go.RowKit Dk
set_option maxRecDepth 100000
set_option maxHeartbeats 40000000
attribute [local go_sem] min_int2 max_int2 bstr_toList

theorem bplays_law (w : World) (sk : Int) (_bk : -9223372036854775808 ≤ sk ∧ sk ≤ 9223372036854775807) (sm : Int) (_bm : -9223372036854775808 ≤ sm ∧ sm ≤ 9223372036854775807) (sb : Int) (_bb : -9223372036854775808 ≤ sb ∧ sb ≤ 9223372036854775807) (most : Int) (_bo : -9223372036854775808 ≤ most ∧ most ≤ 9223372036854775807) (v : Value) (l : List Hit) (hV : Hits w v l) (hl : l.length ≤ maxLen) :
    Calls Tryz.prog 10 #[.agg #[.int .i64 sk, .int .i64 sm, .int .i64 sb], .int .i64 most, v] w fun e w' => e = .returned (.bool true) ∧ Ext w w' := by
  obtain ⟨la, lc, rfl⟩ := hV.form
  obtain ⟨f, hf⟩ := hV.withF
  have HF := Lib.hid hf
  unfold maxLen at hl
  have hL1 := (Lab.start w).newrow 23 #[.int .i64 sk, .int .i64 sm, .int .i64 sb]
  obtain ⟨sbx, hsb⟩ : ∃ b, w.heap.size = b := ⟨_, rfl⟩
  rw [hsb] at hL1
  clear hV hf
  go_enter Tryz.func10, Tryz.ntmps10
  go_wp2_with fail
  refine (bawake_any _).mono ?_; rintro e w2 ⟨rfl, x2⟩
  have L2 := Lib.hid (hL1.ext x2)
  clear hL1 x2 hsb
  by_cases h60 : 40 < l.length
  · have h60' : (40 : Int) < (l.length : Int) := by omega
    have X2 := Lib.hid L2.out.toExt
    clear h60
    go_wp2_with fail
    go_ret
    exact ⟨rfl, X2.out⟩
  have h60' : (l.length : Int) ≤ 40 := by omega
  have L3 := Lib.hid (ownKT.nil 74 5 L2.out)
  clear L2
  go_wp2_with fail
  go_loopw [7, 8] (fun v7 v8 wr => ∃ (i : Nat) (xa : Option Addr) (xc : Nat), i ≤ l.length ∧ v8 = .int .i64 (i : Nat) ∧ v7 = .slice xa i xc ∧ Hid (Lab w wr ((ownKT 74 5 (.slice xa i xc) i ((List.range i).flatMap (drow l f))).star ((rowT sbx 23 #[.int .i64 sk, .int .i64 sm, .int .i64 sb]).star emp)))) (fun _ v8 _ => (l.length - intOf v8).toNat)
  case atStart => exact ⟨0, none, 0, by omega, rfl, rfl, L3⟩
  case round =>
    obtain ⟨i, xa, xc, hi, rfl, rfl, HI⟩ := hrel
    by_cases hlt : i < l.length
    · have hlt' : (i : Int) < (l.length : Int) := by omega
      obtain ⟨x, hx⟩ : ∃ x, l[i]? = some x := ⟨_, List.getElem?_eq_getElem hlt⟩
      obtain ⟨-, -, b, o, hla, -, d0, d1, d2, d3, d4⟩ := (HF.out.ext HI.out.toExt) i x hx
      have HR := Lib.hid (show (List.range (i + 1)).flatMap (drow l f) = (List.range i).flatMap (drow l f) ++ dcs x.d (f i) by rw [flat_succ, drow_get f hx])
      obtain ⟨xi, ⟨xact, xn, xp, xq, xt⟩⟩ := x
      obtain ⟨⟨da, dc⟩, hda⟩ : ∃ p, f i = p := ⟨_, rfl⟩
      rw [hda] at HR d4
      simp only at d0 d1 d2 d3 d4 HR
      subst hla
      clear hx hda
      go_wp2_with (at_builtin; refine list_of_wp rfl fun KK hKK => wp_lappK1 _ _ 72 74 zdeed 5 72 rfl Tryz.underlying72 info_deed rfl (by decide) rfl rfl rfl rfl rfl (dcs_one ⟨xact, xn, xp, xq, xt⟩ (da, dc)) HI.out (by omega) fun ad c w7 hL => hKK _ _ ?_)
      have HL7 := Lib.hid hL
      clear hL d0 d1 d2 d3 d4
      go_wp2_with fail
      exact ⟨⟨i + 1, ad, c, by omega, by go_num, rfl, Lib.hid (by rw [HR.out]; exact HL7.out)⟩, by simp [intOf]; omega⟩
    · obtain rfl : i = l.length := by omega
      clear hlt
      have HDD := Lib.hid (deeds_own HF.out HI.out.toExt rfl (ownKT.own HI.out.left))
      have c0 := (rowT.row HI.out.right.left).cell (i := 0) (v := .int .i64 sk) rfl
      have c1 := (rowT.row HI.out.right.left).cell (i := 1) (v := .int .i64 sm) rfl
      have c2 := (rowT.row HI.out.right.left).cell (i := 2) (v := .int .i64 sb) rfl
      go_wp2_with fail
      by_cases hr : 1 ≤ sk ∧ sk ≤ 12 ∧ 1 ≤ sm ∧ sm ≤ 12
      case neg =>
        have HR := Lib.hid hr
        clear hr
        refine (make_bad sk sm sb most HR.out _).mono ?_; rintro e w3 ⟨rfl, x3⟩
        have X3 := Lib.hid (Ext.trans HI.out.toExt x3)
        clear x3
        go_wp2_with fail
        go_ret
        exact ⟨rfl, X3.out⟩
      refine (make_any sk sm sb most hr w _ _ HI.out).mono ?_
      rintro e w3 (⟨-, rfl, x3⟩ | ⟨P, K, M, B, hm, rfl, hL⟩)
      · go_wp2_with fail
        go_ret
        exact ⟨rfl, x3⟩
      have LP := Lib.hid hL
      have HD3 := Lib.hid (deeds_own HF.out hL.toExt rfl (ownKT.own (hL.ent memP_pull).left))
      by_cases hR : (l.map Hit.d).length ≤ 40 ∧ ∀ x ∈ l.map Hit.d, x.small
      case neg =>
        have HR := Lib.hid hR
        clear hR
        go_wp2_with fail
        refine (room_any _ (l.map Hit.d) 40 false (by omega) ⟨(fun h => Bool.noConfusion h), fun h => absurd h HR.out⟩ (by rw [List.length_map]; unfold maxLen; omega) _ HD3.out).mono ?_; rintro e w' ⟨rfl, rfl⟩
        go_wp2_with fail
        go_ret
        exact ⟨rfl, LP.out.toExt⟩
      have HR := Lib.hid hR.2
      clear hR
      go_wp2_with fail
      refine (room_any _ (l.map Hit.d) 40 true (by omega) ⟨fun _ => ⟨by rw [List.length_map]; omega, HR.out⟩, fun _ => rfl⟩ (by rw [List.length_map]; unfold maxLen; omega) _ HD3.out).mono ?_; rintro e w' ⟨rfl, rfl⟩
      obtain ⟨n, hn⟩ : ∃ n, K + M = n := ⟨_, rfl⟩
      have hsk := hm.k
      have hsm := hm.m
      have hsb := hm.b
      subst hsk hsm hsb
      obtain ⟨YY, hYY⟩ : ∃ YY, (rowT sbx 23 #[.int .i64 K, .int .i64 M, .int .i64 B]).star emp = YY := ⟨_, rfl⟩
      have hn24 : n ≤ 24 ∧ 2 ≤ n := by have := hm.k1; have := hm.k2; have := hm.m1; have := hm.m2; omega
      have HY := Lib.hid hYY
      have HN := Lib.hid hn
      have HM := Lib.hid hm
      have HOK := Lib.hid (show ∀ s : AS, s.ds.length = n → P.A.Ok s ∧ P.V.Ok s from fun s h => ⟨hm.ok (by rw [h, hn]), ⟨by rw [hm.vK]; exact hm.k1, by rw [hm.vM]; exact hm.m1, by rw [hm.vK, hm.vM, hm.vn], by rw [hm.vK, hm.vM]; have := hm.k2; have := hm.m2; omega, by rw [h, hm.vn, hn]⟩⟩)
      have HK := Lib.hid (And.intro hm.aK (And.intro hm.aM (And.intro hm.vK hm.vM)))
      have L4 := Lib.hid (show ASnd (blanks n most) (900 * 0) ∧ Alive (blanks n most) ∧ (blanks n most).ds.length = n ∧ Lab w w3 (memP P (blanks n most) (blanks n most) YY) from ⟨blanks_snd n most (by omega), ⟨_, rfl⟩, by unfold blanks; simp, by rw [← hYY, ← hn]; exact (LP.out.ent memP_pull).right⟩)
      clear hm hL LP HD3 HDD hYY hn c0 c1 c2 hr HI
      go_wp2_with fail
      go_loopw [10] (fun v10 wr => ∃ (i : Nat) (s : AS), i ≤ l.length ∧ v10 = .int .i64 (i : Nat) ∧ Hid (ASnd s (900 * i) ∧ Alive s ∧ s.ds.length = n ∧ Lab w wr (memP P s s YY))) (fun v10 _ => (l.length - intOf v10).toNat)
      case atStart => exact ⟨0, _, by omega, rfl, L4⟩
      case round =>
        obtain ⟨i, s, hi, rfl, HI⟩ := hrel
        by_cases hlt : i < l.length
        · have hlt' : (i : Int) < (l.length : Int) := by omega
          obtain ⟨x, hx⟩ : ∃ x, l[i]? = some x := ⟨_, List.getElem?_eq_getElem hlt⟩
          obtain ⟨ok, c5, b, o, hla, c0, d0, d1, d2, d3, d4⟩ := (HF.out.ext HI.out.2.2.2.toExt) i x hx
          have HX := Lib.hid (And.intro ok (And.intro ((HF.out i x hx).2.1) (HR.out x.d (List.mem_map.2 ⟨x, List.mem_of_getElem? hx, rfl⟩))))
          obtain ⟨xi, ⟨xact, xn, xp, xq, xt⟩⟩ := x
          obtain ⟨⟨da, dc⟩, hda⟩ : ∃ p, f i = p := ⟨_, rfl⟩
          rw [hda] at d4 HX
          simp only at c0 d0 d1 d2 d3 d4 HX
          subst hla
          clear hx hda ok c5
          have L5 := Lib.hid HI.out.2.2.2
          obtain ⟨HS1, HS2, HS3⟩ := And.intro (Lib.hid HI.out.1) (And.intro (Lib.hid HI.out.2.1) (Lib.hid HI.out.2.2.1))
          have OK := Lib.hid (HOK.out s HS3.out)
          have SC := Lib.hid (show ∀ W s' t', Lab w W (memP P s' t' YY) → (fun w' : World => w'.cell? ⟨P.pb, 0, none⟩ = some (.pointer (some ⟨P.A.ab, 0, none⟩)) ∧ w'.cell? ⟨P.pb, 3, none⟩ = some (.pointer (some ⟨P.V.ab, 0, none⟩))) W from fun W s' t' h => by
            obtain ⟨p0, -, -, p3, -⟩ := memP.cells h
            exact ⟨p0, p3⟩)
          have hn9 : 900 * i < 700000000 := by omega
          by_cases h13 : xact = 13
          · subst h13
            obtain ⟨r, s1, hr1⟩ : ∃ r s1, s.inits (fmtB K M) s.ds.length = (r, s1) := ⟨_, _, rfl⟩
            have HNX := Lib.hid (show ASnd s1 (900 * (i + 1)) ∧ Alive s1 ∧ s1.ds.length = n from by
              have e : s1 = (s.inits (fmtB K M) s.ds.length).2 := by rw [hr1]
              rw [e]
              exact ⟨(HS1.out.inits _ _).mono (by have := HS1.out.len; omega), HS2.out.inits _ _, (AS.inits_len ..).trans HS3.out⟩)
            have HR1 := Lib.hid hr1
            have FA : Hid (∀ W, Lab w W (memP P s s YY) → Calls Tryz.prog 44 #[.pointer (some ⟨P.A.ab, 0, none⟩)] W fun e w' => e = .returned (.int .i64 (r : Nat)) ∧ (fun w' : World => w'.cell? ⟨P.pb, 0, none⟩ = some (.pointer (some ⟨P.A.ab, 0, none⟩)) ∧ w'.cell? ⟨P.pb, 3, none⟩ = some (.pointer (some ⟨P.V.ab, 0, none⟩))) w' ∧ Lab w w' (memP P s1 s YY)) := Lib.hid fun W h => by
              refine (pinit_a h OK.out.1 HS1.out (by omega)).mono ?_
              rintro e w' ⟨k1, k2⟩
              rw [HK.out.1, HK.out.2.1, HR1.out] at k1 k2
              exact ⟨k1, SC.out _ _ _ k2, k2⟩
            have FV : Hid (∀ W, Lab w W (memP P s1 s YY) → Calls Tryz.prog 53 #[.pointer (some ⟨P.V.ab, 0, none⟩)] W fun e w' => e = .returned (.int .i64 (r : Nat)) ∧ (fun w' : World => w'.cell? ⟨P.pb, 0, none⟩ = some (.pointer (some ⟨P.A.ab, 0, none⟩)) ∧ w'.cell? ⟨P.pb, 3, none⟩ = some (.pointer (some ⟨P.V.ab, 0, none⟩))) w' ∧ Lab w w' (memP P s1 s1 YY)) := Lib.hid fun W h => by
              refine (pinit_v h OK.out.2 HS1.out (by omega)).mono ?_
              rintro e w' ⟨k1, k2⟩
              rw [HK.out.2.2.1, HK.out.2.2.2, HR1.out] at k1 k2
              exact ⟨k1, SC.out _ _ _ k2, k2⟩
            have x0 := L5.out.drew
            have S0 : (fun w' : World => w'.cell? ⟨P.pb, 0, none⟩ = some (.pointer (some ⟨P.A.ab, 0, none⟩)) ∧ w'.cell? ⟨P.pb, 3, none⟩ = some (.pointer (some ⟨P.V.ab, 0, none⟩))) wr.drew := SC.out _ _ _ x0
            clear hr1
            go_wp2_with fail
            go_region_held3 (fun w' : World => w'.cell? ⟨P.pb, 0, none⟩ = some (.pointer (some ⟨P.A.ab, 0, none⟩)) ∧ w'.cell? ⟨P.pb, 3, none⟩ = some (.pointer (some ⟨P.V.ab, 0, none⟩))) (assumption) (first | (go_at_call 44; refine (FA.out _ x0).mono ?_; rintro e w6 ⟨rfl, hS6, hL6⟩) | (go_at_call 53; refine (FV.out _ hL6).mono ?_; rintro e w7 ⟨rfl, hS7, hL7⟩))
            have L7 := Lib.hid hL7
            clear x0 S0 FA FV hS6 hL6 hS7 hL7 d0 d1 d2 d3 d4 c0
            go_wp2_with fail
            refine (psame_any P s1 _ _ w _ L7.out (HOK.out _ HNX.out.2.2).1 (HOK.out _ HNX.out.2.2).2 HNX.out.1 HNX.out.2.1).mono ?_; rintro e w8 ⟨rfl, hL⟩
            have L8 := Lib.hid hL
            clear hL
            go_wp2_with fail
            exact ⟨⟨i + 1, s1, by omega, by go_num, Lib.hid ⟨HNX.out.1, HNX.out.2.1, HNX.out.2.2, L8.out⟩⟩, by simp [intOf]; omega⟩
          by_cases h14 : xact = 14
          · subst h14
            obtain ⟨⟨ra, rb⟩, s1, hr1⟩ : ∃ r s1, AS.starts s K M = (r, s1) := ⟨_, _, rfl⟩
            have HNX := Lib.hid (show ASnd s1 (900 * (i + 1)) ∧ Alive s1 ∧ s1.ds.length = n from by
              have e : s1 = (AS.starts s K M).2 := by rw [hr1]
              rw [e]
              exact ⟨(HS1.out.starts _ _).mono (by omega), HS2.out.starts _ _, (AS.starts_len ..).trans HS3.out⟩)
            have HR1 := Lib.hid hr1
            obtain ⟨p0, p3⟩ := SC.out _ _ _ L5.out
            clear hr1
            go_wp2_with fail
            refine (pstart_a L5.out OK.out.1 HS1.out (by omega)).mono ?_; rintro e w6 ⟨rfl, hL⟩
            rw [HK.out.1, HK.out.2.1, HR1.out] at hL ⊢
            have L6 := Lib.hid hL
            replace p3 := (SC.out _ _ _ hL).2
            clear hL p0
            go_wp2_with fail
            refine (pstart_v L6.out OK.out.2 HS1.out (by omega)).mono ?_; rintro e w7 ⟨rfl, hL⟩
            rw [HK.out.2.2.1, HK.out.2.2.2, HR1.out] at hL ⊢
            have L7 := Lib.hid hL
            clear hL p3 d0 d1 d2 d3 d4 c0
            go_wp2_with fail
            refine (psame_any P s1 _ _ w _ L7.out (HOK.out _ HNX.out.2.2).1 (HOK.out _ HNX.out.2.2).2 HNX.out.1 HNX.out.2.1).mono ?_; rintro e w8 ⟨rfl, hL⟩
            have L8 := Lib.hid hL
            clear hL
            go_wp2_with fail
            exact ⟨⟨i + 1, s1, by omega, by go_num, Lib.hid ⟨HNX.out.1, HNX.out.2.1, HNX.out.2.2, L8.out⟩⟩, by simp [intOf]; omega⟩
          obtain ⟨s1, hs1⟩ : ∃ s1, s.does ⟨xi, ⟨xact, xn, xp, xq, xt⟩⟩ = s1 := ⟨_, rfl⟩
          have HNX := Lib.hid (show ASnd s1 (900 * (i + 1)) ∧ Alive s1 ∧ s1.ds.length = n from by
            rw [← hs1]
            exact ⟨(HS1.out.does HS2.out _).1.mono (by omega), (HS1.out.does HS2.out _).2, (AS.does_len ..).trans HS3.out⟩)
          have HR1 := Lib.hid hs1
          have g13 : (xact == 13) = false := by simpa using h13
          have g14 : (xact == 14) = false := by simpa using h14
          clear hs1 h13 h14
          go_wp2_with fail
          refine (pdoes_any P s _ (900 * i) ⟨xi, ⟨xact, xn, xp, xq, xt⟩⟩ da dc w _ L5.out OK.out.1 OK.out.2 HS1.out (by omega) HS2.out HX.out.1 (Nat.le_trans HX.out.2.2.1 (by decide)) (Nat.le_trans HX.out.2.2.2.1 (by decide)) (Nat.le_trans HX.out.2.2.2.2 (by decide)) HX.out.2.1).mono ?_
          rintro e w7 ⟨rfl, hL7⟩
          rw [HR1.out] at hL7
          have L7 := Lib.hid hL7
          clear hL7 d0 d1 d2 d3 d4 c0
          go_wp2_with fail
          refine (psame_any P s1 _ _ w _ L7.out (HOK.out _ HNX.out.2.2).1 (HOK.out _ HNX.out.2.2).2 HNX.out.1 HNX.out.2.1).mono ?_; rintro e w8 ⟨rfl, hL⟩
          have L8 := Lib.hid hL
          clear hL
          go_wp2_with fail
          exact ⟨⟨i + 1, s1, by omega, by go_num, Lib.hid ⟨HNX.out.1, HNX.out.2.1, HNX.out.2.2, L8.out⟩⟩, by simp [intOf]; omega⟩
        · obtain rfl : i = l.length := by omega
          clear hlt
          go_wp2_with fail
          go_ret
          exact ⟨rfl, HI.out.2.2.2.toExt⟩
end Go.Proofs.YthkbbcdnmdjhdaaGreat
