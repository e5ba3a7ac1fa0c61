/-
  awake of strongboxlaw20.
-/
import Derived.Test.YthkbbcdnmdjhdaaGreatBtA
import Derived.Test.YthkbbcdnmdjhdaaGreatArH
/-! XBtB: awake of strongboxlaw20. -/
namespace Go.Proofs.YthkbbcdnmdjhdaaGreat
open Go.RowKit Dk
set_option maxRecDepth 100000
set_option maxHeartbeats 4000000
attribute [local go_sem] min_int2 max_int2 bstr_toList

def baw0 : AS := blanks 3 100
def baw1 : AS := ((baw0.dels 3).voices (fmtB 1 2) 3).2
def baw2 : AS := (baw1.inits (fmtB 1 2) 3).2
theorem baw_start1 : ((baw0.dels 3).voices (fmtB 1 2) 3).1.length = 0 := by kernel_rfl
theorem baw_init : (baw1.inits (fmtB 1 2) 3).1 = 0 := by kernel_rfl
theorem baw_start2 : ((baw2.dels 3).voices (fmtB 1 2) 3).1.length = 3 := by kernel_rfl
theorem bawake_any (w : World) : Calls Tryz.prog 43 #[] w fun e w' => e = .returned (.bool true) ∧ Ext w w' := by
  go_enter Tryz.func43, Tryz.ntmps43
  go_wp2_with fail
  refine (make_any 1 2 16 100 ⟨by decide, by decide, by decide, by decide⟩ w _ emp (Lab.start w)).mono ?_
  rintro e w1 (⟨hn, -, -⟩ | ⟨P, K, M, B, hm, rfl, hL⟩)
  · exact absurd ⟨by decide, by decide, by decide, by decide, by decide, by decide⟩ hn
  obtain rfl : K = 1 := by have := hm.k; omega
  obtain rfl : M = 2 := by have := hm.m; omega
  obtain rfl : B = 16 := by have := hm.b; omega
  have hok := hm.okb (most := 100)
  have hA := And.intro hm.aK (And.intro hm.aM (And.intro hm.aB hm.an))
  have L1 := Lib.hid (show Lab w w1 (memP P baw0 baw0 emp) from hL)
  have HOK := Lib.hid (show P.A.Ok baw0 from hok)
  have HA := Lib.hid (show P.A.K = 1 ∧ P.A.M = 2 ∧ P.A.B = 16 ∧ P.A.ss.length = 3 from hA)
  have HS0 := Lib.hid (show ASnd baw0 0 from blanks_snd 3 100 (by decide))
  have HS1 := Lib.hid (show ASnd baw1 6 from (HS0.out.dels 3).voices _ 3)
  have HS2 := Lib.hid (show ASnd baw2 15 from HS1.out.inits _ 3)
  have HK1 := Lib.hid (show P.A.Ok baw1 from HOK.out.of ((AS.voices_len ..).trans (AS.dels_len ..)))
  have HK2 := Lib.hid (show P.A.Ok baw2 from HK1.out.of (AS.inits_len ..))
  obtain ⟨c0, -, -, -, -⟩ := memP.cells hL
  clear hL hok hA hm
  go_wp2_with fail
  refine (bstart_any P.A (some P.f) baw0 _ 0 w _ (L1.out.ent memP_in) HOK.out HS0.out (by decide)).mono ?_
  rintro e w2 ⟨rfl, hL⟩
  rw [HA.out.1, HA.out.2.1, HA.out.2.2.2] at hL ⊢
  rw [baw_start1, show short 0 (quo 1 2) = 11 from rfl]
  have L2 := Lib.hid (show Lab w w2 (memP P baw1 baw0 emp) from hL.ent memP_out)
  replace c0 := (memP.cells L2.out).1
  clear hL L1
  go_wp2_with fail
  refine (binit_any P.A (some P.f) baw1 _ 6 w _ (L2.out.ent memP_in) HK1.out HS1.out (by decide)).mono ?_
  rintro e w3 ⟨rfl, hL⟩
  rw [HA.out.1, HA.out.2.1, HA.out.2.2.2] at hL ⊢
  rw [baw_init]
  have L3 := Lib.hid (show Lab w w3 (memP P baw2 baw0 emp) from hL.ent memP_out)
  replace c0 := (memP.cells L3.out).1
  clear hL L2
  go_wp2_with fail
  refine (bstart_any P.A (some P.f) baw2 _ 15 w _ (L3.out.ent memP_in) HK2.out HS2.out (by decide)).mono ?_
  rintro e w4 ⟨rfl, hL⟩
  rw [HA.out.1, HA.out.2.1, HA.out.2.2.2] at hL ⊢
  rw [baw_start2, show short 3 (quo 1 2) = 0 from rfl]
  have X4 := Lib.hid hL.toExt
  clear hL L3 c0
  go_wp2_with fail
  go_ret
  exact ⟨rfl, X4.out⟩
end Go.Proofs.YthkbbcdnmdjhdaaGreat
