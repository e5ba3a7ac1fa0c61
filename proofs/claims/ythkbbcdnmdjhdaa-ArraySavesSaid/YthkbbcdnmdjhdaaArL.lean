/-
  ArraySaves: the walk.
-/
import Derived.Test.YthkbbcdnmdjhdaaArK
import Derived.Test.YthkbbcdnmdjhdaaArH
/-! XArL: ArraySaves: the walk. -/
namespace Go.Proofs.Ythkbbcdnmdjhdaa
open Go.RowKit Dk
set_option maxRecDepth 100000
set_option maxHeartbeats 4000000
attribute [local go_sem] min_int2 max_int2 bstr_toList

theorem saves_law (w : World) (v : Value) (old : List UInt8) (hv : Bytes w v old) (hl : old.length ≤ maxLen) (u : Value) (now : List UInt8) (hu : Bytes w u now) (hul : now.length ≤ maxLen) (a b : UInt8) :
    Calls Try.prog 7 #[v, u, .agg #[bv a, bv b]] w fun e w' => e = .returned (.bool true) ∧ Ext w w' := by
  obtain ⟨va, vc, rfl⟩ := hv.slice
  obtain ⟨ua, uc, rfl⟩ := hu.slice
  have HV := Lib.hid hv
  have HU := Lib.hid hu
  unfold maxLen at hl hul
  obtain ⟨x, hx⟩ : ∃ x, a.toNat = x := ⟨_, rfl⟩
  obtain ⟨y, hy⟩ : ∃ y, b.toNat = y := ⟨_, rfl⟩
  have hx2 : x < 256 := by rw [← hx]; exact UInt8.toNat_lt _
  have hy2 : y < 256 := by rw [← hy]; exact UInt8.toNat_lt _
  rw [show bv a = .int .u8 (x : Nat) from by subst hx; rfl, show bv b = .int .u8 (y : Nat) from by subst hy; rfl]
  obtain ⟨k, hk⟩ : ∃ k, x % 6 = k := ⟨_, rfl⟩
  have hk2 : k < 6 := by omega
  have hkr : (IntKind.i64.wrap (x : Int)).tmod 6 = (k : Nat) := by rw [show IntKind.i64.wrap (x : Int) = (x : Int) from by rw [IntKind.wrap_i64]; omega, ← hk]; rfl
  have hyr : IntKind.i64.wrap (y : Int) = (y : Int) := by rw [IntKind.wrap_i64]; omega
  have hL1 := (Lab.start w).newrow 68 #[.int .u8 (x : Nat), .int .u8 (y : Nat)]
  obtain ⟨bb, hbb⟩ : ∃ bb, w.heap.size = bb := ⟨_, rfl⟩
  rw [hbb] at hL1
  clear hv hu hx hy hk
  go_enter Try.func7, Try.ntmps7
  go_wp2_with fail
  refine (aawake_any _).mono ?_; rintro e w1 ⟨rfl, x1⟩
  replace hL1 := hL1.ext x1
  clear x1
  by_cases h1 : 2000 < old.length
  · have h1' : (2000 : Int) < (old.length : Int) := by omega
    go_wp2_with fail
    go_ret
    exact ⟨rfl, hL1.toExt⟩
  have h1' : (old.length : Int) ≤ 2000 := by omega
  by_cases h2 : 2000 < now.length
  · have h2' : (2000 : Int) < (now.length : Int) := by omega
    go_wp2_with fail
    go_ret
    exact ⟨rfl, hL1.toExt⟩
  have h2' : (now.length : Int) ≤ 2000 := by omega
  have HO := Lib.hid (show old.length ≤ 2000 ∧ now.length ≤ 2000 by omega)
  clear h1 h2
  go_wp2_with fail
  refine (make_any 1 1 16 10000 ⟨by decide, by decide, by decide, by decide⟩ w _ _ hL1).mono ?_
  rintro e w2 (⟨hn, -, -⟩ | ⟨P, K, M, B, hm, rfl, hL⟩)
  · exact absurd ⟨by decide, by decide, by decide, by decide, by decide, by decide⟩ hn
  obtain rfl : K = 1 := by have := hm.k; omega
  obtain rfl : M = 1 := by have := hm.m; omega
  obtain rfl : B = 16 := by have := hm.b; omega
  have L2 := Lib.hid (show Lab w w2 (memP P sv0 sv0 ((rowT bb 68 #[.int .u8 (x : Nat), .int .u8 (y : Nat)]).star blankT)) from hL)
  have HK := Lib.hid (show P.A.Ok sv0 from hm.okb (most := 10000))
  have HA := Lib.hid (show ASnd sv0 0 from blanks_snd 2 10000 (by decide))
  have HN := Lib.hid (show P.A.ss.length = 2 from hm.an)
  have p0 := (memP.cells hL).1
  clear hL hm hL1
  go_wp2_with fail
  have E1 := sv1_eq old HO.out.1
  refine (asave_any P.A (some P.f) sv0 _ 0 0 xP _ old w w2 (L2.out.ent memP_in) HK.out HA.out (by decide) (by rw [HN.out]; decide) (by decide) (HV.out.ext L2.out.toExt) (by omega)).mono ?_
  rintro e w3 ⟨rfl, hL⟩
  have HA3 := HA.out.save 0 xP old
  have HK3 := HK.out.of (AS.save_len sv0 0 xP old)
  rw [E1] at hL HA3 HK3 ⊢
  have L3 := Lib.hid (show Lab w w3 (memP P (sv1 old) sv0 ((rowT bb 68 #[.int .u8 (x : Nat), .int .u8 (y : Nat)]).star blankT)) from hL.ent memP_out)
  have HA := Lib.hid HA3
  have HK := Lib.hid HK3
  clear hL HA3 HK3 L2 p0 E1
  have S0 : (fun w' : World => w'.cell? ⟨P.pb, 2, none⟩ = some (.pointer (some ⟨P.f, 0, none⟩)) ∧ w'.cell? ⟨bb, 0, none⟩ = some (.int .u8 (x : Nat))) w3.drew := ⟨(memP.cells L3.out.drew).2.2.1, (rowT.row L3.out.drew.right.right.right.right.right.right.right.right.left).cell (i := 0) rfl⟩
  have F3 := Lib.hid (L3.out.drew.ent memP_in)
  go_wp2_with fail
  go_region_held3 (fun w' : World => w'.cell? ⟨P.pb, 2, none⟩ = some (.pointer (some ⟨P.f, 0, none⟩)) ∧ w'.cell? ⟨bb, 0, none⟩ = some (.int .u8 (x : Nat))) (first | assumption | exact S4) (first | (go_at_call 29; refine (Lab.afset F3.out (k : Nat) (by omega)).mono ?_; rintro e w4 ⟨rfl, hL4⟩; have S4 : (fun w' : World => w'.cell? ⟨P.pb, 2, none⟩ = some (.pointer (some ⟨P.f, 0, none⟩)) ∧ w'.cell? ⟨bb, 0, none⟩ = some (.int .u8 (x : Nat))) w4 := ⟨(memP.cells (hL4.ent memP_out)).2.2.1, (rowT.row (hL4.ent memP_out).right.right.right.right.right.right.right.right.left).cell (i := 0) rfl⟩))
  have L4 := Lib.hid (show Lab w w4 (memP P ⟨some ⟨(k : Nat), 0, false⟩, (sv1 old).ds⟩ sv0 ((rowT bb 68 #[.int .u8 (x : Nat), .int .u8 (y : Nat)]).star blankT)) from hL4.ent memP_out)
  have HA4 := Lib.hid (show ASnd ⟨some ⟨(k : Nat), 0, false⟩, (sv1 old).ds⟩ 0 from HA.out.fuse _ (Nat.le_refl _))
  have HK4 := Lib.hid (show P.A.Ok ⟨some ⟨(k : Nat), 0, false⟩, (sv1 old).ds⟩ from HK.out.of rfl)
  have p0 := (memP.cells L4.out).1
  clear S0 S4 hL4 F3 L3 HA HK hkr
  go_wp2_with fail
  refine (asave_any P.A (some P.f) _ _ 0 0 xP _ now w w4 (L4.out.ent memP_in) HK4.out HA4.out (by decide) (by rw [HN.out]; decide) (by decide) (HU.out.ext L4.out.toExt) (by omega)).mono ?_
  rintro e w5 ⟨rfl, hL⟩
  have HA5 := HA4.out.save 0 xP now
  have HK5 := HK4.out.of (AS.save_len ⟨some ⟨(k : Nat), 0, false⟩, (sv1 old).ds⟩ 0 xP now)
  obtain ⟨fs, z, r, d1, E2, fl, E3, E4, E5⟩ := sv2_eq old now HO.out.1 HO.out.2 k hk2
  rw [E2] at hL HA5 HK5 ⊢
  obtain ⟨fb, fe⟩ := fl
  have HF := Lib.hid (And.intro E3 E4)
  have HR := Lib.hid E5
  have L5 := Lib.hid (show Lab w w5 (memP P ⟨some z, [⟨10000, false, 0, fs⟩, d1]⟩ sv0 ((rowT bb 68 #[.int .u8 (x : Nat), .int .u8 (y : Nat)]).star blankT)) from hL.ent memP_out)
  have HA5 := Lib.hid (show ASnd ⟨some z, [⟨10000, false, 0, fs⟩, d1]⟩ 3 from HA5)
  have HK5 := Lib.hid (show P.A.Ok ⟨some z, [⟨10000, false, 0, fs⟩, d1]⟩ from HK5)
  have p2 := (memP.cells L5.out).2.2.1
  clear hL E2 E3 E4 E5 L4 HA4 HK4 p0
  go_wp2_with fail
  refine (Lab.afset (L5.out.ent memP_in) 0 (by decide)).mono ?_; rintro e w6 ⟨rfl, hL⟩
  have L6 := Lib.hid (show Lab w w6 (memP P ⟨some ⟨0, 0, false⟩, [⟨10000, false, 0, fs⟩, d1]⟩ sv0 ((rowT bb 68 #[.int .u8 (x : Nat), .int .u8 (y : Nat)]).star blankT)) from hL.ent memP_out)
  clear hL p2
  go_wp2_with fail
  go_loopw [9] (fun v9 wr => ∃ (i : Nat) (s : AS), i ≤ 2 ∧ v9 = .int .i64 (i : Nat) ∧ Hid (ASnd s 3 ∧ P.A.Ok s ∧ get xP (s.ds.getD 0 dz).fs = some ⟨fb, fe⟩) ∧ Hid (Lab w wr (memP P s sv0 ((rowT bb 68 #[.int .u8 (x : Nat), .int .u8 (y : Nat)]).star blankT)))) (fun v9 _ => (2 - intOf v9).toNat)
  case atStart => exact ⟨0, ⟨some ⟨0, 0, false⟩, [⟨10000, false, 0, fs⟩, d1]⟩, by omega, rfl, Lib.hid ⟨HA5.out.fuse _ (Nat.zero_le _), HK5.out.of rfl, HF.out.1⟩, L6⟩
  case round =>
    obtain ⟨i, s, hi, rfl, HI, LI⟩ := hrel
    by_cases hlt : i < 2
    · have hlt' : (i : Int) < 2 := by omega
      obtain ⟨sa, hsa⟩ : ∃ sa, P.A.ss[i]? = some sa := ⟨_, List.getElem?_eq_getElem (by rw [HN.out]; exact hlt)⟩
      have HS := Lib.hid hsa
      have S0 : (fun w' : World => w'.cell? ⟨P.pb, 1, none⟩ = some (.slice (some ⟨P.db, 0, none⟩) 2 P.dc) ∧ w'.cell? ⟨P.db, i, none⟩ = some (.pointer (some ⟨sa, 0, none⟩)) ∧ w'.cell? ⟨bb, 1, none⟩ = some (.int .u8 (y : Nat))) wr.drew := ⟨HN.out ▸ (memP.cells LI.out.drew).2.1, memP.sim LI.out.drew HS.out, (rowT.row LI.out.drew.right.right.right.right.right.right.right.right.left).cell (i := 1) rfl⟩
      have FI := Lib.hid (LI.out.drew.ent memP_in)
      clear hsa
      go_wp2_with fail
      go_region_held3 (fun w' : World => w'.cell? ⟨P.pb, 1, none⟩ = some (.slice (some ⟨P.db, 0, none⟩) 2 P.dc) ∧ w'.cell? ⟨P.db, i, none⟩ = some (.pointer (some ⟨sa, 0, none⟩)) ∧ w'.cell? ⟨bb, 1, none⟩ = some (.int .u8 (y : Nat))) (first | assumption | exact S4) (first | (go_at_call 30; refine (Lab.acrash FI.out HI.out.2.1 HI.out.1 HS.out (y : Nat) (by omega)).mono ?_; rintro e w7 ⟨rfl, hL7⟩; have S4 : (fun w' : World => w'.cell? ⟨P.pb, 1, none⟩ = some (.slice (some ⟨P.db, 0, none⟩) 2 P.dc) ∧ w'.cell? ⟨P.db, i, none⟩ = some (.pointer (some ⟨sa, 0, none⟩)) ∧ w'.cell? ⟨bb, 1, none⟩ = some (.int .u8 (y : Nat))) w7 := ⟨HN.out ▸ (memP.cells (hL7.ent memP_out)).2.1, memP.sim (hL7.ent memP_out) HS.out, (rowT.row (hL7.ent memP_out).right.right.right.right.right.right.right.right.left).cell (i := 1) rfl⟩))
      have L7 := Lib.hid (show Lab w w7 (memP P (s.on i (DS.crash (y : Nat))) sv0 ((rowT bb 68 #[.int .u8 (x : Nat), .int .u8 (y : Nat)]).star blankT)) from hL7.ent memP_out)
      have HI7 := Lib.hid (show ASnd (s.on i (DS.crash (y : Nat))) 3 ∧ P.A.Ok (s.on i (DS.crash (y : Nat))) ∧ get xP ((s.on i (DS.crash (y : Nat))).ds.getD 0 dz).fs = some ⟨fb, fe⟩ from ⟨HI.out.1.on i _ fun d h => h.crash _, HI.out.2.1.of (AS.on_len ..), on_crash s i _ xP _ HI.out.2.2 HF.out.2⟩)
      clear hL7 S0 S4 FI
      go_wp2_with fail
      exact ⟨⟨i + 1, _, by omega, by go_num, HI7, L7⟩, by simp [intOf]; omega⟩
    · obtain rfl : i = 2 := by omega
      clear hlt
      obtain ⟨sa, hsa⟩ : ∃ sa, P.A.ss[0]? = some sa := ⟨_, List.getElem?_eq_getElem (by rw [HN.out]; decide)⟩
      have p1 : wr.cell? ⟨P.pb, 1, none⟩ = some (.slice (some ⟨P.db, 0, none⟩) 2 P.dc) := HN.out ▸ (memP.cells LI.out).2.1
      have p3 := memP.sim LI.out hsa
      have HS := Lib.hid hsa
      clear hsa
      go_wp2_with fail
      refine (Lab.alook (LI.out.ent memP_in) HI.out.2.1 HI.out.1 HS.out xP (by decide)).mono ?_
      rintro e w8 ⟨v8, rfl, hL⟩
      rw [HI.out.2.2] at hL ⊢
      have hb := ownT.own hL.left
      obtain ⟨ca, cc, rfl⟩ := Own.slice' hb
      have X8 := Lib.hid hL.toExt
      have y0 := str_conv (l := fb) hb.cells w8 (Ext.refl _)
      rw [bvs_len] at y0
      have y1 := str_conv HV.out w8 X8.out
      have y2 := str_conv HU.out w8 X8.out
      obtain rfl : fe = true := HF.out.2
      clear hL hb p1 p3
      rcases HR.out with ⟨rfl, e2⟩ | ⟨rfl, e2⟩
      · replace e2 : fb = now := e2
        subst e2
        go_wp2_with fail
        go_ret
        exact ⟨by simp, X8.out⟩
      · rcases e2 with e2 | e2
        · replace e2 : fb = old := e2
          subst e2
          go_wp2_with fail
          go_ret
          exact ⟨by simp, X8.out⟩
        · replace e2 : fb = now := e2
          subst e2
          go_wp2_with fail
          all_goals
            go_ret
            exact ⟨by simp, X8.out⟩
end Go.Proofs.Ythkbbcdnmdjhdaa
