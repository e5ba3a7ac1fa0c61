/-
  awake of strongboxlaw12.
-/
import Derived.Test.YthkbbcdnmdjhdaaGreatArG
/-! XArH: awake of strongboxlaw12. -/
namespace Go.Proofs.YthkbbcdnmdjhdaaGreat
open Go.RowKit Dk
set_option maxRecDepth 100000
set_option maxHeartbeats 4000000
attribute [local go_sem] min_int2 max_int2 bstr_toList

def aaw0 : AS := blanks 3 1000
def aaw1 : AS := (aaw0.save 0 fmtP (fmtB 2 1 0)).2
def aaw2 : AS := (aaw1.save 2 fmtP (fmtB 2 1 2)).2
def aaw3 : AS := (aaw2.voice 0 (fmtB 2 1 0)).2
theorem aaw_save1 : (aaw0.save 0 fmtP (fmtB 2 1 0)).1 = 0 := by kernel_rfl
theorem aaw_save2 : (aaw1.save 2 fmtP (fmtB 2 1 2)).1 = 0 := by kernel_rfl
theorem aaw_voice : (aaw2.voice 0 (fmtB 2 1 0)).1 = (true, 0) := by kernel_rfl
theorem aaw_voices : (aaw3.voices (fmtB 2 1) 3).1 = [0, 2] := by kernel_rfl
theorem lit_ints (w : World) (l : List Int) (C : Array Value) (hC : C.toList = ivs l) (hl : l.length ≤ 1000) : Ints (w.alloc (.cells C 3)) (.slice (some ⟨w.heap.size, 0, none⟩) l.length l.length) l := by
  have h := (Own.new w 0 3 C (Nat.zero_le _) (by rw [← Array.length_toList, hC]; simp [maxLen]; omega)).cells
  have e : C.size = l.length := by rw [← Array.length_toList, hC]; simp
  rw [hC, e] at h
  exact h
theorem aawake_any (w : World) : Calls Tryz.prog 26 #[] w fun e w' => e = .returned (.bool true) ∧ Ext w w' := by
  go_enter Tryz.func26, Tryz.ntmps26
  go_wp2_with fail
  refine (make_any 2 1 16 1000 ⟨by decide, by decide, by decide, by decide⟩ w _ emp (Lab.start w)).mono ?_
  rintro e w1 (⟨hn, -, -⟩ | ⟨P, K, M, B, hm, rfl, hL⟩)
  · exact absurd ⟨by decide, by decide, by decide, by decide, by decide, by decide⟩ hn
  obtain rfl : K = 2 := by have := hm.k; omega
  obtain rfl : M = 1 := by have := hm.m; omega
  obtain rfl : B = 16 := by have := hm.b; omega
  have hok := hm.okb (most := 1000)
  have hA := And.intro hm.aK (And.intro hm.aM (And.intro hm.aB hm.an))
  have L1 := Lib.hid (show Lab w w1 (memP P aaw0 aaw0 emp) from hL)
  have HOK := Lib.hid (show P.A.Ok aaw0 from hok)
  have HA := Lib.hid hA
  have HS0 := Lib.hid (show ASnd aaw0 0 from blanks_snd 3 1000 (by decide))
  have HS1 := Lib.hid (show ASnd aaw1 3 from HS0.out.save 0 fmtP _)
  have HS2 := Lib.hid (show ASnd aaw2 6 from HS1.out.save 2 fmtP _)
  have HS3 := Lib.hid (show ASnd aaw3 7 from HS2.out.voice 0 _)
  have HK1 := Lib.hid (show P.A.Ok aaw1 from HOK.out.of (AS.save_len ..))
  have HK2 := Lib.hid (show P.A.Ok aaw2 from HK1.out.of (AS.save_len ..))
  have HK3 := Lib.hid (show P.A.Ok aaw3 from HK2.out.of (AS.voice_len ..))
  obtain ⟨c0, -, -, -, -⟩ := memP.cells hL
  clear hL hok hA hm
  have FA : Hid (∀ W, Lab w W (memP P aaw0 aaw0 emp) → Calls Tryz.prog 29 #[.pointer (some ⟨P.A.ab, 0, none⟩), .int .i64 0] W fun e w' => e = .returned (.int .i64 0) ∧ (fun w' : World => w'.cell? ⟨P.pb, 0, none⟩ = some (.pointer (some ⟨P.A.ab, 0, none⟩))) w' ∧ Lab w w' (memP P aaw1 aaw0 emp)) := Lib.hid fun W h => by
    refine (aformat_any P.A (some P.f) aaw0 _ 0 0 w W (h.ent memP_in) HOK.out HS0.out (by decide) (by rw [HA.out.2.2.2]; decide)).mono ?_
    rintro e w' ⟨k1, k2⟩
    rw [HA.out.1, HA.out.2.1] at k1 k2
    rw [aaw_save1] at k1
    have k3 : Lab w w' (memP P aaw1 aaw0 emp) := k2.ent memP_out
    exact ⟨k1, (memP.cells k3).1, k3⟩
  have FB : Hid (∀ W, Lab w W (memP P aaw1 aaw0 emp) → Calls Tryz.prog 29 #[.pointer (some ⟨P.A.ab, 0, none⟩), .int .i64 2] W fun e w' => e = .returned (.int .i64 0) ∧ (fun w' : World => w'.cell? ⟨P.pb, 0, none⟩ = some (.pointer (some ⟨P.A.ab, 0, none⟩))) w' ∧ Lab w w' (memP P aaw2 aaw0 emp)) := Lib.hid fun W h => by
    refine (aformat_any P.A (some P.f) aaw1 _ 3 2 w W (h.ent memP_in) HK1.out HS1.out (by decide) (by rw [HA.out.2.2.2]; decide)).mono ?_
    rintro e w' ⟨k1, k2⟩
    rw [HA.out.1, HA.out.2.1] at k1 k2
    rw [aaw_save2] at k1
    have k3 : Lab w w' (memP P aaw2 aaw0 emp) := k2.ent memP_out
    exact ⟨k1, (memP.cells k3).1, k3⟩
  have x0 := L1.out.drew
  have S0 : (fun w' : World => w'.cell? ⟨P.pb, 0, none⟩ = some (.pointer (some ⟨P.A.ab, 0, none⟩))) w1.drew := c0
  go_wp2_with fail
  go_region_held3 (fun w' : World => w'.cell? ⟨P.pb, 0, none⟩ = some (.pointer (some ⟨P.A.ab, 0, none⟩))) (assumption) (first | (go_at_call 29; with_reducible refine (FA.out _ x0).mono ?_; rintro e w4 ⟨rfl, hS4, hL4⟩) | (go_at_call 29; with_reducible refine (FB.out _ hL4).mono ?_; rintro e w5 ⟨rfl, hS5, hL5⟩))
  have L5 := Lib.hid hL5
  replace c0 := hS5
  clear x0 S0 hS4 hL4 hS5 hL5 FA FB
  go_wp2_with fail
  refine (avoice_any P.A (some P.f) aaw2 _ 6 0 w _ (L5.out.ent memP_in) HK2.out HS2.out (by decide) (by rw [HA.out.2.2.2]; decide)).mono ?_
  rintro e w6 ⟨rfl, hL⟩
  rw [HA.out.1, HA.out.2.1] at hL ⊢
  rw [aaw_voice]
  have L6 := Lib.hid (show Lab w w6 (memP P aaw3 aaw0 emp) from hL.ent memP_out)
  replace c0 := (memP.cells L6.out).1
  clear hL
  go_wp2_with fail
  refine (avoices_any P.A (some P.f) aaw3 _ 7 w _ (L6.out.ent memP_in) HK3.out HS3.out (by decide)).mono ?_
  rintro e w7 ⟨u, rfl, hL⟩
  rw [HA.out.1, HA.out.2.1, HA.out.2.2.2, aaw_voices] at hL
  obtain ⟨ua, uc, rfl⟩ := Own.slice' (ownT.own hL.left)
  have L7 := Lib.hid (hL.ent (.star (.refl _) memP_out))
  clear hL
  have hI := lit_ints w7 [0, 2] #[.int .i64 0, .int .i64 2] rfl (by decide)
  have x8 : Ext w7 (w7.alloc (.cells #[.int .i64 0, .int .i64 2] 3)) := (Ext.refl w7).alloc (Nat.le_refl _) _
  have L8 := Lib.hid (L7.out.ext x8)
  replace c0 := (memP.cells L8.out.right).1
  have HI := Lib.hid hI
  clear hI x8
  go_wp2_with fail
  refine (ints_any _ _ [0, 2] [0, 2] true (by decide) (by decide) (by decide) _ (ownT.own L8.out.left).cells HI.out).mono ?_; rintro e w9 ⟨rfl, x9⟩
  have L9 := Lib.hid (L8.out.ext x9)
  replace c0 := (memP.cells L9.out.right).1
  clear x9
  go_wp2_with fail
  refine (aquorum_any P.A aaw3 HK3.out w _ (memP.arr L9.out.right)).mono ?_; rintro e w10 ⟨rfl, x10⟩
  rw [HA.out.1, HA.out.2.1]
  have L10 := Lib.hid (L9.out.ext x10)
  replace c0 := (memP.cells L10.out.right).1
  clear x10
  rw [show quo 2 1 = 2 from rfl]
  go_wp2_with fail
  refine (aN_any P.A w _ (memP.arr L10.out.right)).mono ?_; rintro e w' ⟨rfl, rfl⟩
  rw [HA.out.2.2.2]
  go_wp2_with fail
  go_ret
  exact ⟨rfl, L10.out.toExt⟩
end Go.Proofs.YthkbbcdnmdjhdaaGreat
