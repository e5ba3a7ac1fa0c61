/-
  The statements of layer 1 by their walks: each returns true and leaves what was there.
-/
import Derived.Test.YtflockpdojjgeaaGfE
namespace Go.Proofs.Ytflockpdojjgeaa
open Go.RowKit Gf
set_option maxRecDepth 100000
set_option maxHeartbeats 1000000
attribute [local go_sem] min_int2 max_int2

theorem tmul_int (b : Nat) (x y : Int) (hx : 0 ≤ x ∧ x < 256) (hy : 0 ≤ y ∧ y < 256) (w : World) (h : TableAt w b) :
    Calls Try.prog 31 #[.pointer (some ⟨b, 0, none⟩), .int .u8 x, .int .u8 y] w fun e w' => e = .returned (.int .u8 (gmul x.toNat y.toNat : Nat)) ∧ w = w' := by
  obtain ⟨x, rfl⟩ := Int.eq_ofNat_of_zero_le hx.1
  obtain ⟨y, rfl⟩ := Int.eq_ofNat_of_zero_le hy.1
  exact tmul_any b x y (by omega) (by omega) w h
theorem tpow_int (b : Nat) (x n : Int) (hx : 0 ≤ x ∧ x < 256) (w : World) (h : TableAt w b) :
    Calls Try.prog 26 #[.pointer (some ⟨b, 0, none⟩), .int .u8 x, .int .i64 n] w fun e w' => e = .returned (.int .u8 (gpow x.toNat n : Nat)) ∧ w = w' := by
  obtain ⟨x, rfl⟩ := Int.eq_ofNat_of_zero_le hx.1
  exact tpow_any b x (by omega) n w h
theorem add_int (x y : Int) (hx : 0 ≤ x ∧ x < 256) (hy : 0 ≤ y ∧ y < 256) (w : World) :
    Calls Try.prog 30 #[.int .u8 x, .int .u8 y] w fun e w' => e = .returned (.int .u8 (x.toNat ^^^ y.toNat : Nat)) ∧ w = w' := by
  obtain ⟨x, rfl⟩ := Int.eq_ofNat_of_zero_le hx.1
  obtain ⟨y, rfl⟩ := Int.eq_ofNat_of_zero_le hy.1
  exact add_any x y (by omega) (by omega) w

theorem gfawake_any (w : World) : Calls Try.prog 22 #[] w fun e w' => e = .returned (.bool true) ∧ Ext w w' := by
  have e1 : gmul 128 2 = 29 := by decide
  have e2 : exI 8 = 29 := by decide
  have e3 : ginv 2 = 142 := by decide
  go_enter Try.func22, Try.ntmps22
  go_wp2_with fail
  refine (new_any _).mono ?_; rintro e w1 ⟨b, hb, rfl, hT, hx⟩
  have hh := Lib.hid hT
  clear hT
  go_wp2_with fail
  refine (inv_any b 2 (by decide) (by decide) _ hh.out).mono ?_; rintro e w' ⟨rfl, rfl⟩
  go_wp2_with fail
  refine (mul_any 128 2 (by decide) (by decide) _).mono ?_; rintro e w' ⟨rfl, rfl⟩
  go_wp2_with fail
  refine (exp_any b 8 _ hh.out).mono ?_; rintro e w' ⟨rfl, rfl⟩
  go_wp2_with fail
  go_ret
  exact ⟨rfl, hx⟩

theorem gfKnown_walk (w : World) : Calls Try.prog 8 #[] w fun e w' => e = .returned (.bool true) ∧ Below w.heap.size w w' := by
  have e1 : lg 2 = 1 := by decide
  have e2 : gpow 0 0 = 1 := by decide
  have e3 : gpow 0 3 = 0 := by decide
  have e4 : gpow 3 (-1) = 0 := by decide
  have e5 : exI (-1) = 142 := by decide
  have e6 : exI 255 = 1 := by decide
  go_enter Try.func8, Try.ntmps8
  go_wp2_with fail
  refine (gfawake_any _).mono ?_; rintro e w1 ⟨rfl, hx1⟩
  go_wp2_with fail
  refine (new_any _).mono ?_; rintro e w2 ⟨b, hb, rfl, hT, hx⟩
  have hh := Lib.hid hT
  clear hT
  go_wp2_with fail
  refine (log_any b 2 (by decide) (by decide) _ hh.out).mono ?_; rintro e w' ⟨rfl, rfl⟩
  go_wp2_with fail
  refine (log_zero b _ hh.out).mono ?_; rintro e w' ⟨rfl, rfl⟩
  go_wp2_with fail
  refine (div_none b 5 _ hh.out).mono ?_; rintro e w' ⟨rfl, rfl⟩
  go_wp2_with fail
  refine (div_zero b 5 (by decide) (by decide) _ hh.out).mono ?_; rintro e w' ⟨rfl, rfl⟩
  go_wp2_with (first | (go_at_call 26; refine (tpow_int b _ _ (by decide) _ hh.out).mono ?_; rintro e w' ⟨rfl, rfl⟩) | (go_at_call 27; refine (exp_any b _ _ hh.out).mono ?_; rintro e w' ⟨rfl, rfl⟩))
  go_ret
  exact ⟨rfl, hx1.trans hx⟩
end Go.Proofs.Ytflockpdojjgeaa
